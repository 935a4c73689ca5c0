/- The engine, seen plainly (2b): codes that say which variables are still read; the others are forgotten behind each region. -/
import Derived.Test.YtglhpnieiphahaaESb
set_option autoImplicit false
set_option linter.unusedSimpArgs false
set_option linter.unusedVariables false
namespace Go.Proofs.Ytglhpnieiphahaa.D
open Go

inductive RC : Type
  | skip
  | evs (l : List Ev) (ks : List Nat)
  | seq (a b : RC)
  | cond (c : RX) (a b : RC)
  | block (id : Nat) (a : RC)
  | loop (a : RC) (ks : List Nat)
  | exit (id : Nat)
  | ret
def RC.erase : RC → RC0
  | .skip => .skip
  | .evs l _ => .evs l
  | .seq a b => .seq a.erase b.erase
  | .cond c a b => .cond c a.erase b.erase
  | .block id a => .block id a.erase
  | .loop a _ => .loop a.erase
  | .exit id => .exit id
  | .ret => .ret
noncomputable section
/-- what is kept of the variables behind a region -/
def jE : Env := fun _ => .junk
def trim : List Nat → Env → Env
  | [], _ => jE
  | t :: ts, ρ => Env.set (trim ts ρ) t (ρ t)
theorem trim_mem (ks : List Nat) (ρ : Env) (t : Nat) (h : t ∈ ks) : trim ks ρ t = ρ t := by
  induction ks with
  | nil => cases h
  | cons x xs ih =>
    show (if t = x then ρ x else trim xs ρ t) = ρ t
    by_cases q : t = x
    · rw [if_pos q, q]
    · rw [if_neg q]
      rcases List.mem_cons.1 h with h | h
      · exact absurd h q
      · exact ih h
def RC.wp (P : Program) (call : Nat → V → Store → Rc) : RC → Env → Store → (X → Env → Store → Prop) → Prop
  | .skip, ρ, h, Q => Q .nrm ρ h
  | .evs l ks, ρ, h, Q => EvW P call l ρ h fun ρ' h' => Q .nrm (trim ks ρ') h'
  | .seq a b, ρ, h, Q => RC.wp P call a ρ h fun x ρ' h' => match x with | .nrm => RC.wp P call b ρ' h' Q | .ext k => Q (.ext k) ρ' h' | .ret => Q .ret ρ' h'
  | .cond c a b, ρ, h, Q => match rd ρ c with | .bool q => if q = true then RC.wp P call a ρ h Q else RC.wp P call b ρ h Q | _ => False
  | .block id a, ρ, h, Q => RC.wp P call a ρ h fun x ρ' h' => Q (if x = .ext id then .nrm else x) ρ' h'
  | .loop a _, ρ, h, Q => loopW (RC.wp P call a) loopFuel ρ h Q
  | .exit id, ρ, h, Q => Q (.ext id) ρ h
  | .ret, ρ, h, Q => Q .ret ρ h
theorem RC.wp_mono {P : Program} {call : Nat → V → Store → Rc} (c : RC) : ∀ {ρ : Env} {h : Store} {Q Q' : X → Env → Store → Prop}, (∀ x ρ h, Q x ρ h → Q' x ρ h) → c.wp P call ρ h Q → c.wp P call ρ h Q' := by
  induction c with
  | skip => exact fun hq => hq _ _ _
  | evs l ks => exact fun hq => EvW_mono l fun ρ h => hq _ _ _
  | seq a b iha ihb =>
    intro ρ h Q Q' hq
    refine iha fun x ρ' h' q => ?_
    cases x with
    | nrm => exact ihb hq q
    | ext k => exact hq _ _ _ q
    | ret => exact hq _ _ _ q
  | cond c a b iha ihb =>
    intro ρ h Q Q' hq
    simp only [RC.wp]
    split
    · split
      · exact iha hq
      · exact ihb hq
    · exact id
  | block id a ih => exact fun hq => ih fun x ρ h => hq _ _ _
  | loop a ks ih =>
    intro ρ h Q Q' hq hw
    exact loopW_mono (body := RC.wp P call a) ih _ hq hw
  | exit id => exact fun hq => hq _ _ _
  | ret => exact fun hq => hq _ _ _

/-! which variables are read -/
def rxL : RX → List Nat
  | .t n => [n]
  | .v _ => []
def rxO : Option RX → List Nat
  | some x => rxL x
  | none => []
def rxs : List RX → List Nat
  | [] => []
  | x :: xs => rxL x ++ rxs xs
def RO.lv : RO → List Nat
  | .mov x => rxL x
  | .pick c a b => rxL c ++ (rxL a ++ rxL b)
  | .box _ _ => []
  | .boxv x => rxL x
  | .build _ _ ps => rxs (ps.map fun p => p.2.2)
  | .lit _ _ _ ps => rxs (ps.map fun p => p.2)
  | .load _ _ x => rxL x
  | .store _ a x => rxL a ++ rxL x
  | .chk x => rxL x
  | .bin _ x y => rxL x ++ rxL y
  | .eqi _ x y => rxL x ++ rxL y
  | .eqb _ x y => rxL x ++ rxL y
  | .eqs _ x y => rxL x ++ rxL y
  | .nilp _ x y => rxL x ++ rxL y
  | .nils _ x y => rxL x ++ rxL y
  | .un _ x => rxL x
  | .cvt _ x => rxL x
  | .fn _ caps => rxs caps
  | .mk _ _ _ l c => rxL l ++ rxL c
  | .cut _ x lo hi mx => rxL x ++ (rxO lo ++ (rxO hi ++ rxO mx))
  | .fadr _ x => rxL x
  | .fld _ _ _ x => rxL x
  | .iadr _ x i => rxL x ++ rxL i
  | .aadr _ _ x i => rxL x ++ rxL i
  | .ext x _ => rxL x
  | .len x => rxL x
  | .app _ _ s x => rxL s ++ rxL x
  | .mnx _ x l => rxL x ++ rxs l
  | .call _ args => rxs args
  | .callv f args => rxL f ++ rxs args
def gdL : Option (Nat × Bool) → List Nat
  | some (t, _) => [t]
  | none => []
def delN (t : Nat) : List Nat → List Nat
  | [] => []
  | x :: xs => if x = t then delN t xs else x :: delN t xs
def delO (d : Option Nat) (l : List Nat) : List Nat := match d with | some t => delN t l | none => l
def evLv : List Ev → List Nat → List Nat
  | [], L => L
  | .ex d g r :: es, L => gdL g ++ (r.lv ++ delO d (evLv es L))
  | .ck d g r :: es, L => gdL g ++ (r.lv ++ (d :: evLv es L))
  | .dif a b :: es, L => rxL a ++ (rxL b ++ evLv es L)
def subB (a b : List Nat) : Bool := a.all fun t => hasN t b
def lkE (ex : List (Nat × List Nat)) (k : Nat) : Option (List Nat) :=
  match ex with
  | [] => none
  | p :: ps => if p.1 = k then some p.2 else lkE ps k
def RC.lv : RC → List Nat → List (Nat × List Nat) → List Nat → Option (List Nat)
  | .skip, L, _, _ => some L
  | .evs l ks, L, _, _ => if subB L ks = true then some (evLv l ks) else none
  | .seq a b, L, ex, rt => (RC.lv b L ex rt).bind fun M => RC.lv a M ex rt
  | .cond c a b, L, ex, rt => (RC.lv a L ex rt).bind fun A => (RC.lv b L ex rt).map fun B => rxL c ++ (A ++ B)
  | .block id a, L, ex, rt => RC.lv a L ((id, L) :: ex) rt
  | .loop a ks, _, ex, rt => (RC.lv a ks ex rt).bind fun A => if subB A ks = true then some ks else none
  | .exit id, _, ex, _ => lkE ex id
  | .ret, _, _, rt => some rt

def Agree (L : List Nat) (ρ ρ' : Env) : Prop := ∀ t ∈ L, ρ t = ρ' t
theorem Agree.left {a b : List Nat} {ρ ρ' : Env} (h : Agree (a ++ b) ρ ρ') : Agree a ρ ρ' := fun t ht => h t (List.mem_append_left _ ht)
theorem Agree.right {a b : List Nat} {ρ ρ' : Env} (h : Agree (a ++ b) ρ ρ') : Agree b ρ ρ' := fun t ht => h t (List.mem_append_right _ ht)
theorem subB_mem {a b : List Nat} (h : subB a b = true) (t : Nat) (ht : t ∈ a) : t ∈ b := hasN_mem (List.all_eq_true.1 h t ht)
theorem delN_mem {t x : Nat} {l : List Nat} (h : x ∈ l) (hne : x ≠ t) : x ∈ delN t l := by
  induction l with
  | nil => cases h
  | cons y l ih =>
    simp only [delN]
    rcases List.mem_cons.1 h with q | q
    · subst q; rw [if_neg hne]; exact List.mem_cons_self
    · split
      · exact ih q
      · exact List.mem_cons_of_mem _ (ih q)
section
variable {P : Program} {call : Nat → V → Store → Rc}
theorem rd_ag {x : RX} {ρ ρ' : Env} (h : Agree (rxL x) ρ ρ') : rd ρ x = rd ρ' x := by
  cases x with
  | t n => exact h n (by simp [rxL])
  | v x => rfl
theorem rdL_ag {l : List RX} {ρ ρ' : Env} (h : Agree (rxs l) ρ ρ') : rdL ρ l = rdL ρ' l := by
  induction l with
  | nil => rfl
  | cons x l ih =>
    show V.cons (rd ρ x) (rdL ρ l) = V.cons (rd ρ' x) (rdL ρ' l)
    rw [rd_ag h.left, ih h.right]
theorem fillW_ag {ps : List (Nat × Nat × RX)} {ρ ρ' : Env} (h : Agree (rxs (ps.map fun p => p.2.2)) ρ ρ') (cs : V) (k : V → Rc) : fillW ρ ps cs k = fillW ρ' ps cs k := by
  induction ps generalizing cs with
  | nil => rfl
  | cons p ps ih =>
    show ifB (Nat.beq (ncell (rd ρ p.2.2)) p.2.1) (fillW ρ ps (vover p.2.1 cs (cellsOf (rd ρ p.2.2)) p.1) k) = ifB (Nat.beq (ncell (rd ρ' p.2.2)) p.2.1) (fillW ρ' ps (vover p.2.1 cs (cellsOf (rd ρ' p.2.2)) p.1) k)
    rw [rd_ag (x := p.2.2) (Agree.left h), ih (Agree.right h)]
theorem fillT_ag {sz : Nat} {ps : List (Nat × RX)} {ρ ρ' : Env} (h : Agree (rxs (ps.map fun p => p.2)) ρ ρ') (el : Tr) (k : Tr → Rc) : fillT ρ sz ps el k = fillT ρ' sz ps el k := by
  induction ps generalizing el with
  | nil => rfl
  | cons p ps ih =>
    show ifB (Nat.beq (ncell (rd ρ p.2)) sz) (fillT ρ sz ps (vput (rd ρ p.2) el (Nat.succ p.1)) k) = ifB (Nat.beq (ncell (rd ρ' p.2)) sz) (fillT ρ' sz ps (vput (rd ρ' p.2) el (Nat.succ p.1)) k)
    rw [rd_ag (x := p.2) (Agree.left h), ih (Agree.right h)]
theorem minW_ag {mx : Bool} {l : List RX} {ρ ρ' : Env} (h : Agree (rxs l) ρ ρ') (v : V) (k : V → Rc) : minW mx ρ l v k = minW mx ρ' l v k := by
  induction l generalizing v with
  | nil => rfl
  | cons x l ih =>
    show on2 v (rd ρ x) (fun kd a b => minW mx ρ l (minV mx kd a b) k) = on2 v (rd ρ' x) (fun kd a b => minW mx ρ' l (minV mx kd a b) k)
    rw [rd_ag h.left]; simp only [ih h.right]
theorem onOptW_ag {x : Option RX} {ρ ρ' : Env} (h : Agree (rxO x) ρ ρ') (k : Option Nat → Rc) : onOptW ρ x k = onOptW ρ' x k := by
  cases x with
  | none => rfl
  | some x => show onIdx (rd ρ x) _ = onIdx (rd ρ' x) _; rw [rd_ag h]
theorem run_ag {r : RO} {ρ ρ' : Env} (h : Agree r.lv ρ ρ') (s : Store) : r.run P call ρ s = r.run P call ρ' s := by
  cases r with
  | mov x => simp only [RO.run, rd_ag (x := x) h]
  | pick c a b => simp only [RO.run, rd_ag (x := c) h.left, rd_ag (x := a) h.right.left, rd_ag (x := b) h.right.right]
  | box n e => rfl
  | boxv x => simp only [RO.run, rd_ag (x := x) h]
  | build n z ps => simp only [RO.run]; exact fillW_ag h _ _
  | lit sz n z ps => simp only [RO.run]; exact fillT_ag h _ _
  | load g n x => simp only [RO.run, rd_ag (x := x) h]
  | store n a x => simp only [RO.run, rd_ag (x := a) h.left, rd_ag (x := x) h.right]
  | chk x => simp only [RO.run, rd_ag (x := x) h]
  | bin op x y => simp only [RO.run, rd_ag (x := x) h.left, rd_ag (x := y) h.right]
  | eqi neg x y => simp only [RO.run, rd_ag (x := x) h.left, rd_ag (x := y) h.right]
  | eqb neg x y => simp only [RO.run, rd_ag (x := x) h.left, rd_ag (x := y) h.right]
  | eqs neg x y => simp only [RO.run, rd_ag (x := x) h.left, rd_ag (x := y) h.right]
  | nilp neg x y => simp only [RO.run, rd_ag (x := x) h.left, rd_ag (x := y) h.right]
  | nils neg x y => simp only [RO.run, rd_ag (x := x) h.left, rd_ag (x := y) h.right]
  | un op x => simp only [RO.run, rd_ag (x := x) h]
  | cvt k x => simp only [RO.run, rd_ag (x := x) h]
  | fn f caps => simp only [RO.run, rdL_ag h]
  | mk sz b z l c => simp only [RO.run, rd_ag (x := l) h.left, rd_ag (x := c) h.right]
  | cut sz x lo hi mx => simp only [RO.run, rd_ag (x := x) h.left, onOptW_ag (x := lo) h.right.left, onOptW_ag (x := hi) h.right.right.left, onOptW_ag (x := mx) h.right.right.right]
  | fadr k x => simp only [RO.run, rd_ag (x := x) h]
  | fld g n off x => simp only [RO.run, rd_ag (x := x) h]
  | iadr sz x i => simp only [RO.run, rd_ag (x := x) h.left, rd_ag (x := i) h.right]
  | aadr n0 sz x i => simp only [RO.run, rd_ag (x := x) h.left, rd_ag (x := i) h.right]
  | ext x i => simp only [RO.run, rd_ag (x := x) h]
  | len x => simp only [RO.run, rd_ag (x := x) h]
  | app sz b s x => simp only [RO.run, rd_ag (x := s) h.left, rd_ag (x := x) h.right]
  | mnx mx x l => simp only [RO.run, rd_ag (x := x) h.left]; exact minW_ag h.right _ _
  | call f args => simp only [RO.run, rdL_ag h]
  | callv f args => simp only [RO.run, rd_ag (x := f) h.left, rdL_ag h.right]
theorem put_ag {d : Option Nat} {L : List Nat} {ρ ρ' : Env} (h : Agree (delO d L) ρ ρ') (v : V) : Agree L (putE ρ d v) (putE ρ' d v) := by
  intro t ht
  cases d with
  | none => exact h t ht
  | some s =>
    show (if t = s then v else ρ t) = (if t = s then v else ρ' t)
    by_cases q : t = s
    · rw [if_pos q, if_pos q]
    · rw [if_neg q, if_neg q]; exact h t (delN_mem ht q)
theorem gW_ag {g : Option (Nat × Bool)} {ρ ρ' : Env} (h : Agree (gdL g) ρ ρ') {y n y' n' : Prop} (hy : y → y') (hn : n → n') : gW g ρ y n → gW g ρ' y' n' := by
  cases g with
  | none => exact hy
  | some p =>
    obtain ⟨t, w⟩ := p
    have e : ρ t = ρ' t := h t (by simp [gdL])
    simp only [gW, e]
    split
    · split
      · exact hy
      · exact hn
    · exact hn
    · exact fun q => q
theorem EvW_ag (es : List Ev) : ∀ {L : List Nat} {ρ ρ' : Env} {h : Store} {Q : Env → Store → Prop}, Agree (evLv es L) ρ ρ' → EvW P call es ρ h Q → EvW P call es ρ' h fun ρ1 h1 => ∃ ρ0, Agree L ρ0 ρ1 ∧ Q ρ0 h1 := by
  induction es with
  | nil => exact fun ha hw => ⟨_, ha, hw⟩
  | cons x es ih =>
    intro L ρ ρ' h Q ha
    cases x with
    | ex d g r =>
      have ha : Agree (gdL g ++ (r.lv ++ delO d (evLv es L))) ρ ρ' := ha
      refine gW_ag ha.left (fun q => ?_) (fun q => ih (put_ag ha.right.right _) q)
      rw [← run_ag ha.right.left]
      exact okk_mono (fun v s q => ih (put_ag ha.right.right _) q) q
    | ck d g r =>
      have ha : Agree (gdL g ++ (r.lv ++ (d :: evLv es L))) ρ ρ' := ha
      have hr : Agree (evLv es L) ρ ρ' := fun t ht => ha.right.right t (List.mem_cons_of_mem _ ht)
      refine gW_ag ha.left (fun q => ?_) (fun q => ih hr q)
      rw [← run_ag ha.right.left]
      refine okk_mono (fun v s q => ⟨?_, ih hr q.2⟩) q
      rw [← ha.right.right d List.mem_cons_self]; exact q.1
    | dif a b =>
      have ha : Agree (rxL a ++ (rxL b ++ evLv es L)) ρ ρ' := ha
      intro q
      refine ⟨?_, ih ha.right.right q.2⟩
      rw [← rd_ag ha.left, ← rd_ag ha.right.left]; exact q.1

/-- the variables that are read behind an exit -/
def lvX (L : List Nat) (ex : List (Nat × List Nat)) (rt : List Nat) : X → Option (List Nat)
  | .nrm => some L
  | .ext k => lkE ex k
  | .ret => some rt
def Ag (o : Option (List Nat)) (ρ ρ' : Env) : Prop := ∃ L, o = some L ∧ Agree L ρ ρ'
theorem erase_wp (c : RC) : ∀ {L : List Nat} {ex : List (Nat × List Nat)} {rt M : List Nat}, RC.lv c L ex rt = some M → ∀ {ρ ρ' : Env} {h : Store} {Q : X → Env → Store → Prop}, Agree M ρ ρ' → c.wp P call ρ h Q →
    c.erase.wp P call ρ' h fun x ρ1 h1 => ∃ ρ0, Ag (lvX L ex rt x) ρ0 ρ1 ∧ Q x ρ0 h1 := by
  induction c with
  | skip => intro L ex rt M hm ρ ρ' h Q ha hw; cases hm; exact ⟨ρ, ⟨_, rfl, ha⟩, hw⟩
  | evs l ks =>
    intro L ex rt M hm ρ ρ' h Q ha hw
    simp only [RC.lv] at hm
    split at hm
    rotate_left
    · cases hm
    rename_i hs
    cases hm
    refine EvW_mono l (fun ρ1 h1 q => ?_) (EvW_ag l ha hw)
    obtain ⟨ρ0, h2, h3⟩ := q
    exact ⟨trim ks ρ0, ⟨L, rfl, fun t ht => by rw [trim_mem _ _ _ (subB_mem hs t ht)]; exact h2 t (subB_mem hs t ht)⟩, h3⟩
  | seq a b iha ihb =>
    intro L ex rt M hm ρ ρ' h Q ha hw
    simp only [RC.lv] at hm
    cases hb : RC.lv b L ex rt with
    | none => rw [hb] at hm; cases hm
    | some N =>
      rw [hb] at hm
      have hm : RC.lv a N ex rt = some M := hm
      refine RC0.wp_mono a.erase (fun x ρ1 h1 q => ?_) (iha hm ha hw)
      obtain ⟨ρ0, ⟨L0, h2, h3⟩, h4⟩ := q
      cases x with
      | nrm =>
        cases h2
        exact ihb hb h3 h4
      | ext k => exact ⟨ρ0, ⟨L0, h2, h3⟩, h4⟩
      | ret => exact ⟨ρ0, ⟨L0, h2, h3⟩, h4⟩
  | cond c a b iha ihb =>
    intro L ex rt M hm ρ ρ' h Q ha hw
    simp only [RC.lv] at hm
    cases h1 : RC.lv a L ex rt with
    | none => rw [h1] at hm; cases hm
    | some A =>
      rw [h1] at hm
      cases h2 : RC.lv b L ex rt with
      | none => rw [h2] at hm; cases hm
      | some B =>
        rw [h2] at hm
        cases hm
        simp only [RC.erase, RC0.wp, RC.wp] at hw ⊢
        rw [← rd_ag ha.left]
        split
        · rename_i q hq
          rw [hq] at hw
          simp only at hw
          split
          · rename_i e; rw [if_pos e] at hw; exact iha h1 ha.right.left hw
          · rename_i e; rw [if_neg e] at hw; exact ihb h2 ha.right.right hw
        · rename_i hn
          split at hw
          · rename_i q hq; exact absurd hq (hn q)
          · exact hw
  | block id a ih =>
    intro L ex rt M hm ρ ρ' h Q ha hw
    refine RC0.wp_mono a.erase (fun x ρ1 h1 q => ?_) (ih (show RC.lv a L ((id, L) :: ex) rt = some M from hm) ha hw)
    obtain ⟨ρ0, ⟨L0, h2, h3⟩, h4⟩ := q
    refine ⟨ρ0, ⟨L0, ?_, h3⟩, h4⟩
    cases x with
    | nrm => exact h2
    | ext k =>
      have h2 : (if id = k then some L else lkE ex k) = some L0 := h2
      by_cases e : k = id
      · subst e; rw [if_pos rfl] at h2 ⊢; exact h2
      · rw [if_neg (fun q => e q.symm)] at h2; rw [if_neg (fun q => by cases q; exact e rfl)]; exact h2
    | ret => exact h2
  | loop a ks ih =>
    intro L ex rt M hm ρ ρ' h Q ha hw
    simp only [RC.lv] at hm
    cases h1 : RC.lv a ks ex rt with
    | none => rw [h1] at hm; cases hm
    | some A =>
      rw [h1] at hm
      have hm : (if subB A ks = true then some ks else none) = some M := hm
      split at hm
      rotate_left
      · cases hm
      rename_i hs
      cases hm
      replace hw : loopW (RC.wp P call a) loopFuel ρ h Q := hw
      show loopW (RC0.wp P call a.erase) loopFuel ρ' h _
      revert hw
      generalize loopFuel = n
      intro hw
      induction n generalizing ρ ρ' h with
      | zero => exact hw.elim
      | succ n ihn =>
        refine RC0.wp_mono a.erase (fun x ρ1 s1 q => ?_) (ih h1 (fun t ht => ha t (subB_mem hs t ht)) hw)
        obtain ⟨ρ0, ⟨L0, h2, h3⟩, h4⟩ := q
        cases x with
        | nrm => cases h2; exact ihn h3 h4
        | ext k => exact ⟨ρ0, ⟨L0, h2, h3⟩, h4⟩
        | ret => exact ⟨ρ0, ⟨L0, h2, h3⟩, h4⟩
  | exit id =>
    intro L ex rt M hm ρ ρ' h Q ha hw
    exact ⟨ρ, ⟨M, hm, ha⟩, hw⟩
  | ret => intro L ex rt M hm ρ ρ' h Q ha hw; cases hm; exact ⟨ρ, ⟨_, rfl, ha⟩, hw⟩
end

/-! functions -/
structure RT where
  code : RC
  res : List RR
  nt : Nat
def RT.erase (R : RT) : RF := ⟨R.code.erase, R.res, R.nt⟩
def rrL : List RR → List Nat
  | [] => []
  | .tmp t :: rs => t :: rrL rs
  | .cell _ _ a :: rs => a :: rrL rs
def RT.ok (R : RT) : Bool := (RC.lv R.code (rrL R.res) [] (rrL R.res)).isSome
theorem resW_ag (rs : List RR) : ∀ {ρ ρ' : Env} {h : Store} {K : V → Prop}, Agree (rrL rs) ρ ρ' → resW rs ρ h K → resW rs ρ' h K := by
  induction rs with
  | nil => exact fun _ q => q
  | cons r rs ih =>
    intro ρ ρ' h K ha
    have h2 : Agree (rrL rs) ρ ρ' := fun t ht => ha t (by cases r <;> exact List.mem_cons_of_mem _ ht)
    cases r with
    | tmp t => intro q; simp only [resW] at q ⊢; rw [← ha t List.mem_cons_self]; exact ih h2 q
    | cell g n a => intro q; simp only [resW] at q ⊢; rw [← ha a List.mem_cons_self]; exact okk_mono (fun v s q => ih h2 q) q
theorem fn_wpT {P : Program} {pl : Plan} {call : Nat → V → Store → Rc} {f : Nat} {R : RT} (hR : rfOf P pl f = some R.erase ∧ R.ok = true) {args : V} {h : Store} {Q : V → Store → Prop} (hlen : vlen args ≤ R.nt)
    (hw : R.code.wp P call (vnth args) h fun x ρ h' => match x with | .ext _ => False | _ => resW R.res ρ h' fun vs => Q (resV1 R.res vs) h') : okk ((fnC P pl f).run call args h) Q := by
  refine fn_wp hR.1 hlen ?_
  have hok := hR.2
  unfold RT.ok at hok
  cases hm : RC.lv R.code (rrL R.res) [] (rrL R.res) with
  | none => rw [hm] at hok; cases hok
  | some M =>
    refine RC0.wp_mono R.code.erase (fun x ρ1 h1 q => ?_) (erase_wp R.code hm (fun _ _ => rfl) hw)
    obtain ⟨ρ0, ⟨L0, h2, h3⟩, h4⟩ := q
    cases x with
    | nrm => cases h2; exact resW_ag _ h3 h4
    | ext k => exact h4
    | ret => cases h2; exact resW_ag _ h3 h4
theorem run_wpT {P : Program} {pl : Plan} {n f : Nat} {R : RT} (hR : rfOf P pl f = some R.erase ∧ R.ok = true) {args : V} {h : Store} {Q : V → Store → Prop} (hlen : vlen args ≤ R.nt)
    (hw : R.code.wp P (run P pl n) (vnth args) h fun x ρ h' => match x with | .ext _ => False | _ => resW R.res ρ h' fun vs => Q (resV1 R.res vs) h') : okk (run P pl (n + 1) f args h) Q := fn_wpT hR hlen hw
end
end Go.Proofs.Ytglhpnieiphahaa.D
