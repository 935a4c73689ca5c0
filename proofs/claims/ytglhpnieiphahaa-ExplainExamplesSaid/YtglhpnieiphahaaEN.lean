/- An operation looks at its own operands only; a region whose order is drawn: the masks of what goes before, what is looked at. -/
import Derived.Test.YtglhpnieiphahaaEM
set_option autoImplicit false
namespace Go.Proofs.Ytglhpnieiphahaa.D
open Go
noncomputable section

theorem opsV_congr {ρ ρ' : Operand → V} (l : List Operand) (h : ∀ x ∈ l, ρ x = ρ' x) : opsV ρ l = opsV ρ' l := by
  rw [opsV_ofL, opsV_ofL, List.map_congr_left h]
theorem fillV_congr {ρ ρ' : Operand → V} (l : List (Nat × Nat × Operand)) (h : ∀ p ∈ l, ρ p.2.2 = ρ' p.2.2) : ∀ (cs : V) (k : V → Rc), fillV ρ l cs k = fillV ρ' l cs k := by
  induction l with
  | nil => exact fun _ _ => rfl
  | cons p l ih =>
    intro cs k
    show ifB (Nat.beq (ncell (ρ p.2.2)) p.2.1) (fillV ρ l (vover p.2.1 cs (cellsOf (ρ p.2.2)) p.1) k) = ifB (Nat.beq (ncell (ρ' p.2.2)) p.2.1) (fillV ρ' l (vover p.2.1 cs (cellsOf (ρ' p.2.2)) p.1) k)
    rw [h p (by simp), ih (fun q hq => h q (by simp [hq]))]
theorem fillS_congr {ρ ρ' : Operand → V} (sz : Nat) (l : List (Nat × Operand)) (h : ∀ p ∈ l, ρ p.2 = ρ' p.2) : ∀ (el : V) (p : Bool) (k : V → Bool → Rc), fillS ρ sz l el p k = fillS ρ' sz l el p k := by
  induction l with
  | nil => exact fun _ _ _ => rfl
  | cons q l ih =>
    intro el p k
    show ifB (Nat.beq (ncell (ρ q.2)) sz) (fillS ρ sz l (vput (ρ q.2) el (Nat.succ q.1)) (bothB p (pureV (ρ q.2))) k) = ifB (Nat.beq (ncell (ρ' q.2)) sz) (fillS ρ' sz l (vput (ρ' q.2) el (Nat.succ q.1)) (bothB p (pureV (ρ' q.2))) k)
    rw [h q (by simp), ih (fun q' hq => h q' (by simp [hq]))]
theorem resolve_ops {place : Nat → Option (Nat × Nat)} {n : Nat} (parts : List (Nat × Operand)) : ∀ {l : List (Nat × Nat × Operand)}, resolve place n parts = some l → ∀ p ∈ l, ∃ q ∈ parts, q.2 = p.2.2 := by
  induction parts with
  | nil => intro l h p hp; simp only [resolve, Option.some.injEq] at h; subst h; cases hp
  | cons q parts ih =>
    intro l h p hp
    obtain ⟨i, x⟩ := q
    simp only [resolve] at h
    repeat' split at h
    all_goals first | cases h | skip
    all_goals
      rcases List.mem_cons.1 hp with rfl | hp
      · exact ⟨(i, x), by simp, rfl⟩
      · obtain ⟨q, h1, h2⟩ := ih (by assumption) p hp
        exact ⟨q, by simp [h1], h2⟩

theorem opC_congr (P : Program) (pl : Plan) (fid : Nat) (o : Oper) {ρ ρ' : Operand → V} (h : ∀ x ∈ o.op.operands, ρ x = ρ' x) (call : Nat → V → Store → Rc) (s : Store) :
    (opC P pl fid o).run call ρ s = (opC P pl fid o).run call ρ' s := by
  obtain ⟨dst, op, ty, pos, af, gd⟩ := o
  cases op with
  | move x => have hx := h x (by simp [Op.operands]); simp only [opC, moveC, hx]
  | assign x => have hx := h x (by simp [Op.operands]); simp only [opC, moveC, hx]
  | pick c x y => have h1 := h c (by simp [Op.operands]); have h2 := h x (by simp [Op.operands]); have h3 := h y (by simp [Op.operands]); simp only [opC, pickC, h1, h2, h3]
  | alloc t => simp only [opC, allocC]; repeat' split
               all_goals rfl
  | box t x => have hx := h x (by simp [Op.operands]); simp only [opC, boxC, hx]
  | build t ps =>
    simp only [opC, buildC]
    repeat' split
    all_goals first | rfl | skip
    rename_i l hl
    exact fillV_congr l (fun p hp => by
      obtain ⟨q, h1, h2⟩ := resolve_ops _ hl p hp
      rw [← h2]; exact h _ (by simp [Op.operands]; exact ⟨q.1, by simpa using h1⟩)) _ _
  | buildSlice t n ps =>
    simp only [opC, buildSliceC]
    repeat' split
    all_goals first | rfl | skip
    exact fillS_congr _ _ (fun p hp => h _ (by simp [Op.operands]; exact ⟨p.1, by simpa using hp⟩)) _ _ _
  | load t x => have hx := h x (by simp [Op.operands]); simp only [opC, loadC]; repeat' split
                all_goals first | rfl | simp only [hx]
  | store t x y => have h1 := h x (by simp [Op.operands]); have h2 := h y (by simp [Op.operands]); simp only [opC, storeC]; repeat' split
                   all_goals first | rfl | simp only [h1, h2]
  | nilCheck x => have hx := h x (by simp [Op.operands]); simp only [opC, nilCheckC, hx]
  | binOp b t x y t2 => have h1 := h x (by simp [Op.operands]); have h2 := h y (by simp [Op.operands]); cases b <;> simp only [opC, binC, eqC, h1, h2] <;> (try split) <;> first | rfl | simp only [h1, h2]
  | unOp u t x => have hx := h x (by simp [Op.operands]); cases u <;> first | rfl | simp only [opC, unC, hx]
  | makeFunc f x y =>
    simp only [opC, makeFuncC]
    repeat' split
    all_goals first | rfl | skip
    show Rc.ok (V.fn _ (opsV ρ y.toList)) s = Rc.ok (V.fn _ (opsV ρ' y.toList)) s
    rw [opsV_congr _ fun z hz => h z (by simp only [Op.operands]; simp only [Array.mem_append]; exact .inr (by simpa using hz))]
  | makeSlice t l c => have h1 := h l (by simp [Op.operands]); have h2 := h c (by simp [Op.operands]); simp only [opC, makeSliceC]; repeat' split
                       all_goals first | rfl | simp only [h1, h2]
  | slice t x lo hi mx =>
    have hx := h x (by simp [Op.operands])
    simp only [opC, sliceC]
    repeat' split
    all_goals first | rfl | skip
    have oo : ∀ (q : Option Operand) (k : Option Nat → Rc), (∀ z, q = some z → ρ z = ρ' z) → onOpt ρ q k = onOpt ρ' q k := fun q k hq => by
      cases q with
      | none => rfl
      | some z => simp only [onOpt, hq z rfl]
    have e3 : ∀ k, onOpt ρ mx k = onOpt ρ' mx k := fun k => oo mx k fun z hz => h z (by subst hz; simp [Op.operands])
    have e2 : ∀ k, onOpt ρ hi k = onOpt ρ' hi k := fun k => oo hi k fun z hz => h z (by subst hz; simp [Op.operands])
    have e1 : ∀ k, onOpt ρ lo k = onOpt ρ' lo k := fun k => oo lo k fun z hz => h z (by subst hz; simp [Op.operands])
    simp only [hx, e1, e2, e3]
  | fieldAddr t x f => have hx := h x (by simp [Op.operands]); simp only [opC, fieldAddrC]; repeat' split
                       all_goals first | rfl | simp only [hx]
  | field t x f => have hx := h x (by simp [Op.operands]); simp only [opC, fieldC]; repeat' split
                   all_goals first | rfl | simp only [hx]
  | indexAddr t x i => have h1 := h x (by simp [Op.operands]); have h2 := h i (by simp [Op.operands]); simp only [opC, indexAddrC]; repeat' split
                       all_goals first | rfl | simp only [h1, h2]
  | extract x i => have hx := h x (by simp [Op.operands]); simp only [opC, extractC, hx]
  | call c =>
    obtain ⟨callee, args, ats⟩ := c
    simp only [opC, callAny]
    cases callee with
    | value f =>
      have hf := h f (by simp [Op.operands, Call.operands])
      simp only [callC, hf]
      rw [opsV_congr _ fun z hz => h z (by simp [Op.operands, Call.operands]; exact .inr (by simpa using hz))]
    | invoke r n => rfl
    | builtin b =>
      simp only [builtinC]
      split
      · rename_i x t h1 h2
        have hx := h x (by simp [Op.operands, Call.operands, Array.ext' h1 (ys := #[x])])
        simp only [lenC]
        repeat' split
        all_goals first | rfl | simp only [hx]
      · rename_i x y t t' h1 h2
        have q : args = #[x, y] := Array.ext' h1
        have hx := h x (by simp [Op.operands, Call.operands, q])
        have hy := h y (by simp [Op.operands, Call.operands, q])
        split
        · simp only [appendC]
          repeat' split
          all_goals first | rfl | simp only [hx, hy]
        · rfl
      · rfl
  | _ => rfl

/-! what goes before -/
def bt (m i : Nat) : Bool := Nat.testBit m i
def depsOf (o : Oper) : List Nat := (o.after.toList.filter fun e => Region.binds .any e).map (·.on)
def dstOf (ops : Array Oper) (i : Nat) : Option Tmp := (ops[i]?).bind (·.dst)
def ancOf (mks ds : List Nat) : Nat := ds.foldl (fun s d => s ||| 2 ^ d ||| mks.getD d 0) 0
def mksGo : List Oper → List Nat → List Nat
  | [], acc => acc
  | o :: os, acc => mksGo os (acc ++ [ancOf acc (depsOf o)])
def mksOK (ops : Array Oper) (mks : List Nat) : Bool :=
  (List.range ops.size).all fun i => match ops[i]? with
    | none => true
    | some o => (depsOf o).all (fun d => Nat.blt d i) && Nat.beq (mks.getD i 0) (ancOf mks (depsOf o))
theorem anc_bit (mks ds : List Nat) (j : Nat) : ∀ s, (ds.foldl (fun s d => s ||| 2 ^ d ||| mks.getD d 0) s).testBit j = true → s.testBit j = true ∨ ∃ d ∈ ds, d = j ∨ (mks.getD d 0).testBit j = true := by
  induction ds with
  | nil => exact fun s h => .inl h
  | cons d ds ih =>
    intro s h
    rcases ih _ h with h | ⟨d', h1, h2⟩
    · rw [Nat.testBit_or, Nat.testBit_or, Nat.testBit_two_pow] at h
      simp only [Bool.or_eq_true, decide_eq_true_eq] at h
      rcases h with (h | h) | h
      · exact .inl h
      · exact .inr ⟨d, by simp, .inl h⟩
      · exact .inr ⟨d, by simp, .inr h⟩
    · exact .inr ⟨d', by simp [h1], h2⟩
theorem mksOK_spec {ops : Array Oper} {mks : List Nat} (hm : mksOK ops mks = true) {i : Nat} {o : Oper} (ho : ops[i]? = some o) : (∀ d ∈ depsOf o, d < i) ∧ mks.getD i 0 = ancOf mks (depsOf o) := by
  have hi := (Array.getElem?_eq_some_iff.1 ho).1
  have := List.all_eq_true.1 hm i (List.mem_range.2 hi)
  simp only [ho, Bool.and_eq_true, List.all_eq_true] at this
  exact ⟨fun d hd => by simpa using this.1 d hd, Nat.eq_of_beq_eq_true this.2⟩
theorem anc_listed {ops : Array Oper} {mks : List Nat} (hm : mksOK ops mks = true) {L : Nat → Prop} (dc : ∀ i o, ops[i]? = some o → L i → ∀ d ∈ depsOf o, L d) :
    ∀ (i : Nat) (o : Oper), ops[i]? = some o → (∀ d ∈ depsOf o, L d) → ∀ j, bt (mks.getD i 0) j = true → L j := by
  intro i
  induction i using Nat.strongRecOn with
  | ind i ih =>
    intro o ho hd j hj
    obtain ⟨h1, h2⟩ := mksOK_spec hm ho
    unfold bt at hj
    rw [h2] at hj
    rcases anc_bit mks _ j 0 hj with h | ⟨d, hd1, h⟩
    · simp at h
    · rcases h with rfl | h
      · exact hd _ hd1
      · have hlt := h1 d hd1
        have hi := (Array.getElem?_eq_some_iff.1 ho).1
        have hod : ops[d]? = some (ops[d]'(by omega)) := Array.getElem?_eq_getElem _
        exact ih d hlt _ hod (dc _ _ hod (hd d hd1)) j h

/-! what an operation looks at -/
def isAncW (ops : Array Oper) (mks : List Nat) (i : Nat) (t : Tmp) : Bool := (List.range ops.size).any fun j => bt (mks.getD i 0) j && (dstOf ops j == some t)
def lookOK (ops : Array Oper) (mks : List Nat) (i : Nat) (o : Oper) (ns : List Nat) : Bool :=
  (o.looksAt ops).all fun t => (ns.contains t == isAncW ops mks i t) && (List.range ops.size).all fun j => (dstOf ops j != some t) || j == i || bt (mks.getD i 0) j || bt (mks.getD j 0) i
theorem dstOf_lt {ops : Array Oper} {i t : Nat} (h : dstOf ops i = some t) : i < ops.size := by
  rcases Nat.lt_or_ge i ops.size with q | q
  · exact q
  · simp [dstOf, Array.getElem?_eq_none q] at h
theorem isAncW_of {ops : Array Oper} {mks : List Nat} {i j : Nat} {t : Tmp} (h1 : bt (mks.getD i 0) j = true) (h2 : dstOf ops j = some t) : isAncW ops mks i t = true :=
  List.any_eq_true.2 ⟨j, List.mem_range.2 (dstOf_lt h2), by rw [h1, h2]; simp⟩
structure Lk (ops : Array Oper) (mks : List Nat) (ns : List Nat) (i : Nat) (o : Oper) : Prop where
  w : ∀ t ∈ o.looksAt ops, ∀ j, dstOf ops j = some t → j = i ∨ bt (mks.getD i 0) j = true ∨ bt (mks.getD j 0) i = true
  n : ∀ t ∈ o.looksAt ops, isAncW ops mks i t = true → t ∈ ns
theorem lookOK_spec {ops : Array Oper} {mks : List Nat} {i : Nat} {o : Oper} {ns : List Nat} (h : lookOK ops mks i o ns = true) : Lk ops mks ns i o ∧ ∀ t ∈ o.looksAt ops, t ∈ ns → isAncW ops mks i t = true := by
  have h := fun t ht => List.all_eq_true.1 h t ht
  simp only [Bool.and_eq_true, beq_iff_eq, List.all_eq_true, List.mem_range, Bool.or_eq_true, bne_iff_ne, ne_eq] at h
  refine ⟨⟨fun t ht j hj => ?_, fun t ht ha => ?_⟩, fun t ht hn => ?_⟩
  · rcases (h t ht).2 j (dstOf_lt hj) with ((q | q) | q) | q
    · exact absurd hj q
    · exact .inl q
    · exact .inr (.inl q)
    · exact .inr (.inr q)
  · have := (h t ht).1; rw [ha] at this; simpa using this
  · have := (h t ht).1; rw [← this]; simpa using hn

theorem accT_notin {d : Nat} {keep ns : List Nat} {t : Nat} (h : t ∉ ns) (s : V) (e : E8) : (accT d keep ns t).run s e = (accT d keep [] t).run .nil e := by
  have : idxOf t ns = none := by
    cases hi : idxOf t ns with
    | none => rfl
    | some i => exact absurd (List.mem_of_getElem? (idxOf_lt hi).2) h
  unfold accT
  simp only [this, idxOf]
  cases idxOf t keep <;> rfl

end
end Go.Proofs.Ytglhpnieiphahaa.D
