/- An operation looks at its own operands only; a region whose order is drawn: the masks of what goes before, what is looked at. -/
import Derived.Test.YtglhpnieiphahaaEM
set_option autoImplicit false
set_option linter.unusedSimpArgs false
set_option linter.unusedVariables false
namespace Go.Proofs.Ytglhpnieiphahaa.D
open Go
noncomputable section

theorem opsV_congr {ρ ρ' : Operand → V} (l : List Operand) (h : ∀ x ∈ l, ρ x = ρ' x) : opsV ρ l = opsV ρ' l := by
  rw [opsV_ofL, opsV_ofL, List.map_congr_left h]
theorem fillV_congr {ρ ρ' : Operand → V} (l : List (Nat × Nat × Operand)) (h : ∀ p ∈ l, ρ p.2.2 = ρ' p.2.2) : ∀ (cs : V) (k : V → Rc), fillV ρ l cs k = fillV ρ' l cs k := by
  induction l with
  | nil => exact fun _ _ => rfl
  | cons p l ih =>
    intro cs k
    show ifB (Nat.beq (ncell (ρ p.2.2)) p.2.1) (fillV ρ l (vover p.2.1 cs (cellsOf (ρ p.2.2)) p.1) k) = ifB (Nat.beq (ncell (ρ' p.2.2)) p.2.1) (fillV ρ' l (vover p.2.1 cs (cellsOf (ρ' p.2.2)) p.1) k)
    rw [h p (by simp), ih (fun q hq => h q (by simp [hq]))]
theorem fillS_congr {ρ ρ' : Operand → V} (sz : Nat) (l : List (Nat × Operand)) (h : ∀ p ∈ l, ρ p.2 = ρ' p.2) : ∀ (el : Tr) (k : Tr → Rc), fillS ρ sz l el k = fillS ρ' sz l el k := by
  induction l with
  | nil => exact fun _ _ => rfl
  | cons q l ih =>
    intro el k
    show ifB (Nat.beq (ncell (ρ q.2)) sz) (fillS ρ sz l (vput (ρ q.2) el (Nat.succ q.1)) k) = ifB (Nat.beq (ncell (ρ' q.2)) sz) (fillS ρ' sz l (vput (ρ' q.2) el (Nat.succ q.1)) k)
    rw [h q (by simp), ih (fun q' hq => h q' (by simp [hq]))]
theorem resolve_ops {place : Nat → Option (Nat × Nat)} {n : Nat} (parts : List (Nat × Operand)) : ∀ {l : List (Nat × Nat × Operand)}, resolve place n parts = some l → ∀ p ∈ l, ∃ q ∈ parts, q.2 = p.2.2 := by
  induction parts with
  | nil => intro l h p hp; simp only [resolve, Option.some.injEq] at h; subst h; cases hp
  | cons q parts ih =>
    intro l h p hp
    obtain ⟨i, x⟩ := q
    simp only [resolve] at h
    repeat' split at h
    all_goals first | cases h | skip
    all_goals
      rcases List.mem_cons.1 hp with rfl | hp
      · exact ⟨(i, x), by simp, rfl⟩
      · obtain ⟨q, h1, h2⟩ := ih (by assumption) p hp
        exact ⟨q, by simp [h1], h2⟩

theorem binC_cong (P : Program) (b : BinOp) (t : TypeId) (x y : Operand) {ρ ρ' : Operand → V} (h1 : ρ x = ρ' x) (h2 : ρ y = ρ' y) (call : Nat → V → Store → Rc) (s : Store) : (binC P b t x y).run call ρ s = (binC P b t x y).run call ρ' s := by
  cases b <;> simp only [binC, eqC, h1, h2] <;> (try split) <;> first | rfl | simp only [h1, h2]
theorem binX_cong (P : Program) (b : BinOp) (t : TypeId) (x y : Operand) {ρ ρ' : Operand → V} (h1 : ρ x = ρ' x) (h2 : ρ y = ρ' y) (call : Nat → V → Store → Rc) (s : Store) : (binX P b t x y).run call ρ s = (binX P b t x y).run call ρ' s := by
  simp only [binX]
  split
  · cases b <;> simp only [strC, h1, h2] <;> rfl
  · split
    · cases b <;> first | rfl | simp only [h1, h2]
    · exact binC_cong P b t x y h1 h2 call s
theorem minGo_cong (mx : Bool) {ρ ρ' : Operand → V} (l : List Operand) (h : ∀ x ∈ l, ρ x = ρ' x) : ∀ (v : V) (k : V → Rc), minGo mx ρ l v k = minGo mx ρ' l v k := by
  induction l with
  | nil => exact fun _ _ => rfl
  | cons x l ih =>
    intro v k
    show on2 v (ρ x) (fun kd a b => minGo mx ρ l (minV mx kd a b) k) = on2 v (ρ' x) (fun kd a b => minGo mx ρ' l (minV mx kd a b) k)
    rw [h x (by simp)]
    congr 1
    funext kd a b
    exact ih (fun z hz => h z (by simp [hz])) _ _
theorem minC_cong (mx : Bool) (args : Array Operand) {ρ ρ' : Operand → V} (h : ∀ x ∈ args.toList, ρ x = ρ' x) (call : Nat → V → Store → Rc) (s : Store) : (minC mx args).run call ρ s = (minC mx args).run call ρ' s := by
  unfold minC
  split
  · rename_i x l hl
    rw [hl] at h
    show minGo mx ρ l (ρ x) _ = minGo mx ρ' l (ρ' x) _
    rw [h x (by simp), minGo_cong mx l fun z hz => h z (by simp [hz])]
  · rfl

theorem opC_congr (P : Program) (pl : Plan) (fid : Nat) (o : Oper) {ρ ρ' : Operand → V} (h : ∀ x ∈ o.op.operands, ρ x = ρ' x) (call : Nat → V → Store → Rc) (s : Store) :
    (opC P pl fid o).run call ρ s = (opC P pl fid o).run call ρ' s := by
  obtain ⟨dst, op, ty, pos, af, gd⟩ := o
  cases op with
  | move x => have hx := h x (by simp [Op.operands]); simp only [opC, moveC, hx]
  | assign x => have hx := h x (by simp [Op.operands]); simp only [opC, moveC, hx]
  | pick c x y => have h1 := h c (by simp [Op.operands]); have h2 := h x (by simp [Op.operands]); have h3 := h y (by simp [Op.operands]); simp only [opC, pickC, h1, h2, h3]
  | alloc t => simp only [opC, allocC]; repeat' split
               all_goals rfl
  | box t x => have hx := h x (by simp [Op.operands]); simp only [opC, boxC, hx]
  | build t ps =>
    simp only [opC, buildC]
    repeat' split
    all_goals first | rfl | skip
    rename_i l hl
    exact fillV_congr l (fun p hp => by
      obtain ⟨q, h1, h2⟩ := resolve_ops _ hl p hp
      rw [← h2]; exact h _ (by simp [Op.operands]; exact ⟨q.1, by simpa using h1⟩)) _ _
  | buildSlice t n ps =>
    simp only [opC, buildSliceC]
    repeat' split
    all_goals first | rfl | skip
    exact fillS_congr _ _ (fun p hp => h _ (by simp [Op.operands]; exact ⟨p.1, by simpa using hp⟩)) _ _
  | load t x => have hx := h x (by simp [Op.operands]); simp only [opC, loadC]; repeat' split
                all_goals first | rfl | simp only [hx]
  | store t x y => have h1 := h x (by simp [Op.operands]); have h2 := h y (by simp [Op.operands]); simp only [opC, storeC]; repeat' split
                   all_goals first | rfl | simp only [h1, h2]
  | nilCheck x => have hx := h x (by simp [Op.operands]); simp only [opC, nilCheckC, hx]
  | binOp b t x y t2 => exact binX_cong P b t x y (h x (by simp [Op.operands])) (h y (by simp [Op.operands])) call s
  | unOp u t x => have hx := h x (by simp [Op.operands]); cases u <;> first | rfl | simp only [opC, unC, hx]
  | makeFunc f x y =>
    simp only [opC, makeFuncC]
    repeat' split
    all_goals first | rfl | skip
    show Rc.ok (V.fn _ (opsV ρ y.toList)) s = Rc.ok (V.fn _ (opsV ρ' y.toList)) s
    rw [opsV_congr _ fun z hz => h z (by simp only [Op.operands]; simp only [Array.mem_append]; exact .inr (by simpa using hz))]
  | makeSlice t l c => have h1 := h l (by simp [Op.operands]); have h2 := h c (by simp [Op.operands]); simp only [opC, makeSliceC]; repeat' split
                       all_goals first | rfl | simp only [h1, h2]
  | slice t x lo hi mx =>
    have hx := h x (by simp [Op.operands])
    have oo : ∀ (q : Option Operand) (k : Option Nat → Rc), (∀ z, q = some z → ρ z = ρ' z) → onOpt ρ q k = onOpt ρ' q k := fun q k hq => by
      cases q with
      | none => rfl
      | some z => simp only [onOpt, hq z rfl]
    have e3 : ∀ k, onOpt ρ mx k = onOpt ρ' mx k := fun k => oo mx k fun z hz => h z (by subst hz; simp [Op.operands])
    have e2 : ∀ k, onOpt ρ hi k = onOpt ρ' hi k := fun k => oo hi k fun z hz => h z (by subst hz; simp [Op.operands])
    have e1 : ∀ k, onOpt ρ lo k = onOpt ρ' lo k := fun k => oo lo k fun z hz => h z (by subst hz; simp [Op.operands])
    simp only [opC, cutX]
    split
    · split
      · simp only [hx, e1, e2]
      · rfl
    simp only [sliceC]
    repeat' split
    all_goals first | rfl | simp only [hx, e1, e2, e3]
  | fieldAddr t x f => have hx := h x (by simp [Op.operands]); simp only [opC, fieldAddrC]; repeat' split
                       all_goals first | rfl | simp only [hx]
  | field t x f => have hx := h x (by simp [Op.operands]); simp only [opC, fieldC]; repeat' split
                   all_goals first | rfl | simp only [hx]
  | indexAddr t x i => have h1 := h x (by simp [Op.operands]); have h2 := h i (by simp [Op.operands]); simp only [opC, indexAddrC]; repeat' split
                       all_goals first | rfl | simp only [h1, h2]
  | extract x i => have hx := h x (by simp [Op.operands]); simp only [opC, extractC, hx]
  | index t x i => have h1 := h x (by simp [Op.operands]); have h2 := h i (by simp [Op.operands]); simp only [opC, indexC]; repeat' split
                   all_goals first | rfl | simp only [h1, h2]
  | convert s d x => have hx := h x (by simp [Op.operands]); simp only [opC, convX, convC]; repeat' split
                     all_goals first | rfl | simp only [hx]
  | makeInterface t x => have hx := h x (by simp [Op.operands]); simp only [opC, makeIfcC]; repeat' split
                         all_goals first | rfl | simp only [hx]
  | makeMap t r =>
    simp only [opC, makeMapC]
    split
    · split
      · rfl
      · rename_i x
        have hx := h x (by simp [Op.operands])
        simp only [hx]
    · rfl
  | lookup t x k ok => have h1 := h x (by simp [Op.operands]); have h2 := h k (by simp [Op.operands]); simp only [opC, lookupC]; repeat' split
                       all_goals first | rfl | simp only [h1, h2]
  | mapUpdate t x k y => have h1 := h x (by simp [Op.operands]); have h2 := h k (by simp [Op.operands]); have h3 := h y (by simp [Op.operands]); simp only [opC, mapUpdateC]; repeat' split
                         all_goals first | rfl | simp only [h1, h2, h3]
  | insert t x k y => have h1 := h x (by simp [Op.operands]); have h2 := h k (by simp [Op.operands]); have h3 := h y (by simp [Op.operands]); simp only [opC, mapUpdateC]; repeat' split
                      all_goals first | rfl | simp only [h1, h2, h3]
  | mapEntry t x k => have h1 := h x (by simp [Op.operands]); have h2 := h k (by simp [Op.operands]); simp only [opC, mapEntryC]; repeat' split
                      all_goals first | rfl | simp only [h1, h2]
  | entryStore t x k y => have h1 := h x (by simp [Op.operands]); have h2 := h k (by simp [Op.operands]); have h3 := h y (by simp [Op.operands]); simp only [opC, entryStoreC, h1, h2, h3]
  | entry x => have hx := h x (by simp [Op.operands]); simp only [opC, entryC, hx]
  | range t x => have hx := h x (by simp [Op.operands]); simp only [opC, rangeC]; repeat' split
                 all_goals first | rfl | simp only [hx]
  | call c =>
    obtain ⟨callee, args, ats⟩ := c
    simp only [opC, callAny]
    cases callee with
    | value f =>
      have hf := h f (by simp [Op.operands, Call.operands])
      simp only [callC, hf]
      rw [opsV_congr _ fun z hz => h z (by simp [Op.operands, Call.operands]; exact .inr (by simpa using hz))]
    | invoke r n => rfl
    | builtin b =>
      simp only [builtinC]
      split
      · rename_i x t h1 h2
        have hx := h x (by simp [Op.operands, Call.operands, Array.ext' h1 (ys := #[x])])
        simp only [lenMC, lenC]
        repeat' split
        all_goals first | rfl | simp only [hx]
      · rename_i x y t t' h1 h2
        have q : args = #[x, y] := Array.ext' h1
        have hx := h x (by simp [Op.operands, Call.operands, q])
        have hy := h y (by simp [Op.operands, Call.operands, q])
        split
        · simp only [appendC]
          repeat' split
          all_goals first | rfl | simp only [hx, hy]
        · rfl
      · exact minC_cong true args (fun z hz => h z (by simp [Op.operands, Call.operands]; simpa using hz)) call s
      · exact minC_cong false args (fun z hz => h z (by simp [Op.operands, Call.operands]; simpa using hz)) call s
      · rfl
  | _ => rfl

/-! what goes before -/
def bt (m i : Nat) : Bool := Nat.beq (Nat.land (Nat.shiftRight m i) 1) 1
theorem bt_eq (m i : Nat) : bt m i = Nat.testBit m i := by
  have h : (m >>> i) &&& 1 = (m >>> i) % 2 := Nat.and_one_is_mod _
  have h2 : (m >>> i) % 2 = 0 ∨ (m >>> i) % 2 = 1 := by omega
  show Nat.beq ((m >>> i) &&& 1) 1 = (1 &&& (m >>> i) != 0)
  rw [Nat.and_comm 1, h]
  rcases h2 with q | q <;> rw [q] <;> rfl
def depsOf (o : Oper) : List Nat := (o.after.toList.filter fun e => Region.binds .any e).map (·.on)
def dstOf (ops : Array Oper) (i : Nat) : Option Tmp := (ops[i]?).bind (·.dst)
/-- what a region's check keeps: the masks of what goes before each operation (n bits each), and where each variable is written -/
structure Mks where
  n : Nat
  on : Nat
  tb : Nat
  wt : Nat
def Mks.at (m : Mks) (i : Nat) : Nat := Mks.rec (motive := fun _ => Nat) (fun n on tb _ => Nat.land (Nat.shiftRight tb (Nat.mul n i)) on) m
def ancOf (mks : Mks) (ds : List Nat) : Nat := ds.foldl (fun s d => s ||| 2 ^ d ||| mks.at d) 0
def bindsF (e : Edge) : Bool := Edge.rec (motive := fun _ => Bool) (fun _ g => Ground.rec (motive := fun _ => Bool) true true true true (fun _ => false) (fun _ => false) g) e
theorem bindsF_eq (e : Edge) : bindsF e = Region.binds .any e := by
  obtain ⟨on, g⟩ := e
  cases g <;> rfl
def ancL (mks : Mks) (l : List Edge) : Nat → Nat :=
  List.rec (motive := fun _ => Nat → Nat) (fun s => s) (fun e _ ih s => Bool.rec (ih s) (ih (Nat.lor (Nat.lor s (Nat.pow 2 e.on)) (mks.at e.on))) (bindsF e)) l
theorem ancL_eq (mks : Mks) (l : List Edge) : ∀ s, ancL mks l s = ((l.filter fun e => Region.binds .any e).map (·.on)).foldl (fun s d => s ||| 2 ^ d ||| mks.at d) s := by
  induction l with
  | nil => exact fun _ => rfl
  | cons e l ih =>
    intro s
    show Bool.rec (motive := fun _ => Nat) (ancL mks l s) (ancL mks l (Nat.lor (Nat.lor s (Nat.pow 2 e.on)) (mks.at e.on))) (bindsF e) = _
    rw [bindsF_eq]
    cases h : Region.binds .any e with
    | false => rw [List.filter_cons_of_neg (by simp [h])]; exact ih s
    | true => rw [List.filter_cons_of_pos h]; exact ih _
/-- where each variable is written, by one more, eight bits a variable -/
def wtGo (l : List Oper) : Nat → Nat → Nat :=
  List.rec (motive := fun _ => Nat → Nat → Nat) (fun _ w => w) (fun o _ ih i w => ih (Nat.succ i) (Option.rec (motive := fun _ => Nat) w (fun t => Nat.lor w (Nat.shiftLeft (Nat.succ i) (Nat.mul 8 t))) o.dst)) l
theorem wtGo_dig (l : List Oper) (t : Nat) : ∀ i w, i + l.length ≤ 255 → dig (wtGo l i w) t ≠ 0 → dig w t ≠ 0 ∨ ∃ o ∈ l, o.dst = some t := by
  induction l with
  | nil => exact fun i w _ h => .inl h
  | cons o l ih =>
    intro i w hi h
    simp only [List.length_cons] at hi
    rcases ih (i + 1) _ (by omega) h with q | ⟨o', h1, h2⟩
    · cases hd : o.dst with
      | none => rw [hd] at q; exact .inl q
      | some t' =>
        rw [hd] at q
        have q : dig (Nat.lor w (Nat.shiftLeft (i + 1) (Nat.mul 8 t'))) t ≠ 0 := q
        by_cases ht : t = t'
        · exact .inr ⟨o, by simp, by rw [hd, ht]⟩
        · rw [dig_lor, dig_shift _ _ _ (by omega), if_neg ht] at q
          exact .inl fun hz => q (by rw [hz]; rfl)
    · exact .inr ⟨o', by simp [h1], h2⟩
def mksGo (n on : Nat) (l : List Oper) : Nat → Nat → Nat :=
  List.rec (motive := fun _ => Nat → Nat → Nat) (fun _ tb => tb) (fun o _ ih i tb => ih (Nat.succ i) (Nat.lor tb (Nat.shiftLeft (ancL ⟨n, on, tb, 0⟩ o.after.toList 0) (Nat.mul n i)))) l
def mksOf (ops : Array Oper) : Mks := ⟨ops.size, Nat.pred (Nat.pow 2 ops.size), mksGo ops.size (Nat.pred (Nat.pow 2 ops.size)) ops.toList 0 0, wtGo ops.toList 0 0⟩
def wtB (wt : Nat) (o : Oper) (i : Nat) : Bool := Option.rec (motive := fun _ => Bool) true (fun t => Nat.beq (dig wt t) (Nat.succ i)) o.dst
def mksOKG (mks : Mks) (l : List Oper) : Nat → Bool :=
  List.rec (motive := fun _ => Nat → Bool) (fun _ => true) (fun o _ ih i => bothB (Nat.beq (mks.at i) (ancL mks o.after.toList 0)) (bothB (Nat.blt (mks.at i) (Nat.pow 2 i)) (bothB (wtB mks.wt o i) (ih (Nat.succ i))))) l
def mksOK (ops : Array Oper) (mks : Mks) : Bool := bothB (Nat.ble ops.size 255) (bothB (Nat.beq mks.wt (wtGo ops.toList 0 0)) (mksOKG mks ops.toList 0))
theorem anc_bit (mks : Mks) (ds : List Nat) (j : Nat) : ∀ s, (ds.foldl (fun s d => s ||| 2 ^ d ||| mks.at d) s).testBit j = true → s.testBit j = true ∨ ∃ d ∈ ds, d = j ∨ (mks.at d).testBit j = true := by
  induction ds with
  | nil => exact fun s h => .inl h
  | cons d ds ih =>
    intro s h
    rcases ih _ h with h | ⟨d', h1, h2⟩
    · rw [Nat.testBit_or, Nat.testBit_or, Nat.testBit_two_pow] at h
      simp only [Bool.or_eq_true, decide_eq_true_eq] at h
      rcases h with (h | h) | h
      · exact .inl h
      · exact .inr ⟨d, by simp, .inl h⟩
      · exact .inr ⟨d, by simp, .inr h⟩
    · exact .inr ⟨d', by simp [h1], h2⟩
theorem anc_has (mks : Mks) (ds : List Nat) (j : Nat) : ∀ s, (s.testBit j = true ∨ j ∈ ds) → (ds.foldl (fun s d => s ||| 2 ^ d ||| mks.at d) s).testBit j = true := by
  induction ds with
  | nil => exact fun s h => h.elim id fun q => (nomatch q)
  | cons d ds ih =>
    intro s h
    refine ih _ ?_
    rcases h with h | h
    · exact .inl (by rw [Nat.testBit_or, Nat.testBit_or, h]; rfl)
    · rcases List.mem_cons.1 h with rfl | h
      · exact .inl (by rw [Nat.testBit_or, Nat.testBit_or, Nat.testBit_two_pow_self]; simp)
      · exact .inr h
theorem mksOKG_get {mks : Mks} (l : List Oper) : ∀ i0, mksOKG mks l i0 = true → ∀ (i : Nat) (o : Oper), l[i]? = some o → mks.at (i0 + i) = ancL mks o.after.toList 0 ∧ mks.at (i0 + i) < 2 ^ (i0 + i) ∧ wtB mks.wt o (i0 + i) = true := by
  induction l with
  | nil => exact fun i0 _ i o h => by simp at h
  | cons o l ih =>
    intro i0 h i o' ho
    have h : bothB (Nat.beq (mks.at i0) (ancL mks o.after.toList 0)) (bothB (Nat.blt (mks.at i0) (Nat.pow 2 i0)) (bothB (wtB mks.wt o i0) (mksOKG mks l (i0 + 1)))) = true := h
    simp only [bothB_eq, Bool.and_eq_true] at h
    cases i with
    | zero =>
      have : o = o' := by simpa using ho
      subst this
      exact ⟨Nat.eq_of_beq_eq_true h.1, by simpa using h.2.1, h.2.2.1⟩
    | succ i =>
      have := ih (i0 + 1) h.2.2.2 i o' (by simpa using ho)
      rw [show i0 + 1 + i = i0 + (i + 1) by omega] at this
      exact this
theorem mksOK_at {ops : Array Oper} {mks : Mks} (hm : mksOK ops mks = true) {i : Nat} {o : Oper} (ho : ops[i]? = some o) : mks.at i = ancOf mks (depsOf o) ∧ mks.at i < 2 ^ i ∧ wtB mks.wt o i = true := by
  unfold mksOK at hm
  simp only [bothB_eq, Bool.and_eq_true] at hm
  have := mksOKG_get ops.toList 0 hm.2.2 i o (by rw [Array.getElem?_toList]; exact ho)
  rw [Nat.zero_add] at this
  exact ⟨by rw [this.1, ancL_eq]; rfl, this.2⟩
theorem mksOK_spec {ops : Array Oper} {mks : Mks} (hm : mksOK ops mks = true) {i : Nat} {o : Oper} (ho : ops[i]? = some o) : (∀ d ∈ depsOf o, d < i) ∧ mks.at i = ancOf mks (depsOf o) := by
  obtain ⟨h1, h2, _⟩ := mksOK_at hm ho
  refine ⟨fun d hd => ?_, h1⟩
  have hb : (mks.at i).testBit d = true := by rw [h1]; exact anc_has mks _ d 0 (.inr hd)
  have := Nat.ge_two_pow_of_testBit hb
  have : 2 ^ d < 2 ^ i := Nat.lt_of_le_of_lt this h2
  exact (Nat.pow_lt_pow_iff_right (by omega)).1 this
theorem mksOK_wt {ops : Array Oper} {mks : Mks} (hm : mksOK ops mks = true) {i t : Nat} (h : dstOf ops i = some t) : dig mks.wt t = i + 1 := by
  unfold dstOf at h
  cases ho : ops[i]? with
  | none => rw [ho] at h; cases h
  | some o =>
    rw [ho] at h
    have h : o.dst = some t := h
    have := (mksOK_at hm ho).2.2
    unfold wtB at this
    rw [h] at this
    exact Nat.eq_of_beq_eq_true this
theorem mksOK_wt' {ops : Array Oper} {mks : Mks} (hm : mksOK ops mks = true) {j t : Nat} (h : dig mks.wt t = j + 1) : dstOf ops j = some t := by
  have hm' := hm
  unfold mksOK at hm
  simp only [bothB_eq, Bool.and_eq_true] at hm
  have hs : ops.size ≤ 255 := by simpa using hm.1
  have hw := Nat.eq_of_beq_eq_true hm.2.1
  have h2 := h
  rw [hw] at h2
  rcases wtGo_dig ops.toList t 0 0 (by simpa using hs) (by rw [h2]; exact Nat.succ_ne_zero j) with q | ⟨o, h3, h4⟩
  · exact absurd (dig_zero t) q
  · obtain ⟨i, hi⟩ := List.getElem?_of_mem h3
    rw [Array.getElem?_toList] at hi
    have hd : dstOf ops i = some t := by unfold dstOf; rw [hi]; exact h4
    have := mksOK_wt hm' hd
    obtain rfl : i = j := by omega
    exact hd
theorem anc_listed {ops : Array Oper} {mks : Mks} (hm : mksOK ops mks = true) {L : Nat → Prop} (dc : ∀ i o, ops[i]? = some o → L i → ∀ d ∈ depsOf o, L d) :
    ∀ (i : Nat) (o : Oper), ops[i]? = some o → (∀ d ∈ depsOf o, L d) → ∀ j, bt (mks.at i) j = true → L j := by
  intro i
  induction i using Nat.strongRecOn with
  | ind i ih =>
    intro o ho hd j hj
    obtain ⟨h1, h2⟩ := mksOK_spec hm ho
    rw [bt_eq, h2] at hj
    rcases anc_bit mks _ j 0 hj with h | ⟨d, hd1, h⟩
    · simp at h
    · rcases h with rfl | h
      · exact hd _ hd1
      · have hlt := h1 d hd1
        have hi := (Array.getElem?_eq_some_iff.1 ho).1
        have hod : ops[d]? = some (ops[d]'(by omega)) := Array.getElem?_eq_getElem _
        exact ih d hlt _ hod (dc _ _ hod (hd d hd1)) j (by rw [bt_eq]; exact h)

/-! what an operation looks at -/
def isAncW (ops : Array Oper) (mks : Mks) (i : Nat) (t : Tmp) : Bool := (List.range ops.size).any fun j => bt (mks.at i) j && (dstOf ops j == some t)
def hasN (t : Nat) (l : List Nat) : Bool := List.rec (motive := fun _ => Bool) false (fun x _ ih => Bool.rec ih true (Nat.beq x t)) l
theorem hasN_iff (t : Nat) (l : List Nat) : hasN t l = true ↔ t ∈ l := by
  induction l with
  | nil => exact ⟨fun h => (nomatch h), fun h => (nomatch h)⟩
  | cons x l ih =>
    show Bool.rec (motive := fun _ => Bool) (hasN t l) true (Nat.beq x t) = true ↔ _
    cases h : Nat.beq x t with
    | true => have := Nat.eq_of_beq_eq_true h; simp [this]
    | false => have := Nat.ne_of_beq_eq_false h; rw [List.mem_cons]; simp [ih, Ne.symm this]
def notB' (b : Bool) : Bool := Bool.rec true false b
def lookT (mks : Mks) (i : Nat) (ns : List Nat) (t : Nat) : Bool :=
  Nat.rec (motive := fun _ => Bool) (notB' (hasN t ns)) (fun j _ => Bool.rec (bothB (notB' (hasN t ns)) (Bool.rec (bt (mks.at j) i) true (Nat.beq j i))) (hasN t ns) (bt (mks.at i) j)) (dig mks.wt t)
def lookL (mks : Mks) (i : Nat) (ns l : List Nat) : Bool := List.rec (motive := fun _ => Bool) true (fun t _ ih => bothB (lookT mks i ns t) ih) l
def lookOK (ops : Array Oper) (mks : Mks) (i : Nat) (o : Oper) (ns : List Nat) : Bool := bothB (mksOK ops mks) (lookL mks i ns (o.looksAt ops))
theorem dstOf_lt {ops : Array Oper} {i t : Nat} (h : dstOf ops i = some t) : i < ops.size := by
  rcases Nat.lt_or_ge i ops.size with q | q
  · exact q
  · simp [dstOf, Array.getElem?_eq_none q] at h
theorem isAncW_of {ops : Array Oper} {mks : Mks} {i j : Nat} {t : Tmp} (h1 : bt (mks.at i) j = true) (h2 : dstOf ops j = some t) : isAncW ops mks i t = true :=
  List.any_eq_true.2 ⟨j, List.mem_range.2 (dstOf_lt h2), by rw [h1, h2]; simp⟩
structure Lk (ops : Array Oper) (mks : Mks) (ns : List Nat) (i : Nat) (o : Oper) : Prop where
  w : ∀ t ∈ o.looksAt ops, ∀ j, dstOf ops j = some t → j = i ∨ bt (mks.at i) j = true ∨ bt (mks.at j) i = true
  n : ∀ t ∈ o.looksAt ops, isAncW ops mks i t = true → t ∈ ns
theorem lookL_mem {mks : Mks} {i : Nat} {ns : List Nat} (l : List Nat) (h : lookL mks i ns l = true) : ∀ t ∈ l, lookT mks i ns t = true := by
  induction l with
  | nil => exact fun t ht => (nomatch ht)
  | cons x l ih =>
    have h : bothB (lookT mks i ns x) (lookL mks i ns l) = true := h
    rw [bothB_eq, Bool.and_eq_true] at h
    intro t ht
    rcases List.mem_cons.1 ht with rfl | ht
    · exact h.1
    · exact ih h.2 t ht
theorem lookOK_spec {ops : Array Oper} {mks : Mks} {i : Nat} {o : Oper} {ns : List Nat} (h : lookOK ops mks i o ns = true) : Lk ops mks ns i o ∧ ∀ t ∈ o.looksAt ops, t ∈ ns → isAncW ops mks i t = true := by
  have nb : ∀ b, notB' b = !b := fun b => by cases b <;> rfl
  unfold lookOK at h
  rw [bothB_eq, Bool.and_eq_true] at h
  obtain ⟨hm, hl⟩ := h
  have key : ∀ t ∈ o.looksAt ops, (∀ j, dstOf ops j = some t → j = i ∨ bt (mks.at i) j = true ∨ bt (mks.at j) i = true) ∧ (isAncW ops mks i t = true ↔ t ∈ ns) := by
    intro t ht
    have hk := lookL_mem _ hl t ht
    unfold lookT at hk
    cases hw : dig mks.wt t with
    | zero =>
      rw [hw] at hk
      have hk : notB' (hasN t ns) = true := hk
      have no : ∀ j, dstOf ops j ≠ some t := fun j hj => by have := mksOK_wt hm hj; omega
      refine ⟨fun j hj => absurd hj (no j), fun ha => ?_, fun hn => ?_⟩
      · obtain ⟨j, _, hj⟩ := List.any_eq_true.1 ha
        simp only [Bool.and_eq_true, beq_iff_eq] at hj
        exact absurd hj.2 (no j)
      · rw [(hasN_iff t ns).2 hn] at hk; cases hk
    | succ q =>
      rw [hw] at hk
      have hq : dstOf ops q = some t := mksOK_wt' hm hw
      have uq : ∀ j, dstOf ops j = some t → j = q := fun j hj => by have := mksOK_wt hm hj; omega
      have hk : Bool.rec (motive := fun _ => Bool) (bothB (notB' (hasN t ns)) (Bool.rec (motive := fun _ => Bool) (bt (mks.at q) i) true (Nat.beq q i))) (hasN t ns) (bt (mks.at i) q) = true := hk
      cases hb : bt (mks.at i) q with
      | true =>
        rw [hb] at hk
        have hk : hasN t ns = true := hk
        exact ⟨fun j hj => by rw [uq j hj]; exact .inr (.inl hb), fun _ => (hasN_iff t ns).1 hk, fun _ => isAncW_of hb hq⟩
      | false =>
        rw [hb] at hk
        have hk : bothB (notB' (hasN t ns)) (Bool.rec (motive := fun _ => Bool) (bt (mks.at q) i) true (Nat.beq q i)) = true := hk
        rw [bothB_eq, Bool.and_eq_true, nb] at hk
        have hnn : t ∉ ns := fun hn => by rw [(hasN_iff t ns).2 hn] at hk; cases hk.1
        refine ⟨fun j hj => ?_, fun ha => ?_, fun hn => absurd hn hnn⟩
        · rw [uq j hj]
          have hk := hk.2
          cases he : Nat.beq q i with
          | true => exact .inl (Nat.eq_of_beq_eq_true he)
          | false => rw [he] at hk; exact .inr (.inr hk)
        · obtain ⟨j, _, hj⟩ := List.any_eq_true.1 ha
          simp only [Bool.and_eq_true, beq_iff_eq] at hj
          rw [uq j hj.2, hb] at hj; cases hj.1
  exact ⟨⟨fun t ht => (key t ht).1, fun t ht => (key t ht).2.1⟩, fun t ht => (key t ht).2.2⟩

theorem accT_notin {d keep : Nat} {ns : List Nat} {t : Nat} (h : t ∉ ns) (s : Sk) (e : E8) : (accT d keep ns t).run s e = (accT d keep [] t).run .nil e := by
  have : idxOf t ns = none := by
    cases hi : idxOf t ns with
    | none => rfl
    | some i => exact absurd (List.mem_of_getElem? (idxOf_lt hi).2) h
  unfold accT
  simp only [this, idxOf_nil]
  cases kpos keep t <;> rfl

end
end Go.Proofs.Ytglhpnieiphahaa.D
