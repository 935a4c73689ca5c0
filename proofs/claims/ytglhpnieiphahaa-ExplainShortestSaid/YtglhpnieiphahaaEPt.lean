/- Arguments: slices of ints that belong to the caller, laid as far objects. -/
import Derived.Test.YtglhpnieiphahaaEPs
import Derived.WalkKit
import Derived.ProofKit
import Derived.Carry
set_option autoImplicit false
set_option linter.unusedSimpArgs false
set_option linter.unusedVariables false
set_option maxRecDepth 100000
namespace Go.Proofs.Ytglhpnieiphahaa.D
open Go
noncomputable section

def arrT (f : Nat → V) : Nat → Tr
  | 0 => .leaf
  | n + 1 => vput (f n) (arrT f n) (n + 1)
theorem arrT_get (f : Nat → V) : ∀ (n i : Nat), i < n → vget (arrT f n) (i + 1) = f i := by
  intro n
  induction n with
  | zero => intro i hi; omega
  | succ n ih =>
    intro i hi
    show vget (vput (f n) (arrT f n) (n + 1)) (i + 1) = f i
    rw [vget_vput _ _ _ _ (by omega) (by omega)]
    by_cases e : n = i
    · subst e; rw [if_pos rfl]
    · rw [if_neg (by omega)]; exact ih i (by omega)
theorem VR_int (m : Mp) (z : Int) (hz : Rg z) : VR m (I z) (.int .i64 z) := by
  have h := VR.int m .i64 (tc .i64 z) (tc_lt .i64 z)
  rw [sv_tc_I z hz.1 hz.2] at h
  rw [I_eq]; exact h
/-- an argument that is a slice of ints -/
def IntsV (W : World) (v : Value) : Prop := v = .slice none 0 0 ∨ ∃ p q len cap, ∃ zs : List Int, v = .slice (some ⟨p, q, none⟩) len cap ∧ len ≤ cap ∧ cap < 9223372036854775808 ∧ zs.length = cap ∧
  (∀ z ∈ zs, Rg z) ∧ ∃ cs ty fz, W.heap[p]? = some (.cells cs ty fz) ∧ ∀ i, i < cap → cs[q + i]? = some (.int .i64 (zs.getD i 0))
/-- how it is laid -/
structure LaidV (W : World) (v : Value) (M : Nat) (f : Nat → Int) (lv : Nat → V) (ob : Ob) (x : Option (Nat × Nat × Nat)) : Prop where
  lim : M < 9223372036854775808
  frg : ∀ i, i < M → Rg (f i)
  fl : ∀ h id, id < h.next → h.get id = ob → Fl h (lv id) M fun i => I (f i)
  vr : ∀ (m : Mp) id, m.io id 0 = x → VR m (lv id) v
  nl : ∀ gen, ¬ Live ob gen
  far : ∀ (m : Mp) gen sz size el p o n, ob = .far gen sz size el → (if gen = 0 then x else none) = some (p, o, n) →
    ∃ a ty fz, W.heap[p]? = some (.cells a ty fz) ∧ (0 < size → o + size * sz ≤ a.size) ∧ ∀ i j, i < size → j < sz → (a.getD (o + i * sz + j) Go.undef).oneCell' = true ∧ VR m (ecell el i j) (a.getD (o + i * sz + j) Go.undef)
theorem laid_of {W : World} {v : Value} (h : IntsV W v) : ∃ M f lv ob x, LaidV W v M f lv ob x := by
  rcases h with rfl | ⟨p, q, len, cap, zs, rfl, hlc, hcap, hzs, hrg, cs, ty, fz, hp, hc⟩
  · refine ⟨0, fun _ => 0, fun _ => .nils, .far 0 1 0 .leaf, none, by omega, fun i hi => by omega, fun h id _ _ => ⟨.inl ⟨rfl, rfl⟩⟩, fun m id _ => .nils _, fun gen => ?_, fun m gen sz size el p o n _ hx => ?_⟩
    · rintro (⟨_, _, _, e⟩ | ⟨_, e⟩) <;> cases e
    · split at hx <;> cases hx
  · have hrgi : ∀ i, i < cap → Rg (zs.getD i 0) := fun i hi => by
      rw [getD_get _ _ _ (by omega)]; exact hrg _ (List.getElem_mem _)
    refine ⟨len, fun i => zs.getD i 0, fun id => .sl 1 id 0 0 len (cap + 1), .far 0 1 cap (arrT (fun i => I (zs.getD i 0)) cap), some (p, q, q + cap), by omega, fun i hi => hrgi i (by omega), fun h id hid hg => ⟨.inr ⟨id, 0, 0, cap + 1, cap, _, rfl, hid, hg, by omega, fun i hi => ?_⟩⟩, fun m id hx => ?_, fun gen => ?_, fun m gen sz size el p' o n e hx => ?_⟩
    · rw [Nat.zero_add]; exact arrT_get _ _ _ (by omega)
    · exact .sl m 1 id 0 0 len (cap + 1) p q (q + cap) q cap hx (.inl (by omega)) hlc (fun _ => by omega) (fun c hc => by omega)
    · rintro (⟨_, _, _, e⟩ | ⟨_, e⟩) <;> cases e
    · cases e
      rw [if_pos rfl] at hx; cases hx
      refine ⟨cs, ty, fz, hp, fun h0 => ?_, fun i j hi hj => ?_⟩
      · have := (Array.getElem?_eq_some_iff.1 (hc (cap - 1) (by omega))).1
        omega
      · have hj0 : j = 0 := by omega
        subst hj0
        have hci := hc i hi
        have e : cs.getD (q + i * 1 + 0) Go.undef = .int .i64 (zs.getD i 0) := by
          obtain ⟨h1, h2⟩ := Array.getElem?_eq_some_iff.1 hci
          simp only [Nat.mul_one, Nat.add_zero]
          simp [Array.getD, h1, h2]
        rw [e]
        refine ⟨rfl, ?_⟩
        have e2 : ecell (arrT (fun i => I (zs.getD i 0)) cap) i 0 = I (zs.getD i 0) := by
          show cellAt (vget _ (i + 1)) 0 = _
          rw [arrT_get _ _ _ hi, cellAt_I]
        rw [e2]; exact VR_int m _ (hrgi i hi)
/-- two such arguments -/
theorem two_far {W : World} {v1 v2 : Value} {M1 M2 : Nat} {f1 f2 : Nat → Int} {lv1 lv2 : Nat → V} {o1 o2 : Ob} {x1 x2 : Option (Nat × Nat × Nat)} (l1 : LaidV W v1 M1 f1 lv1 o1 x1) (l2 : LaidV W v2 M2 f2 lv2 o2 x2) :
    ∃ m h0, HR m h0 W.heap ∧ (∀ p, ¬ Own m h0 p) ∧ Fl h0 (lv1 0) M1 (fun i => I (f1 i)) ∧ Fl h0 (lv2 1) M2 (fun i => I (f2 i)) ∧ VR m (lv1 0) v1 ∧ VR m (lv2 1) v2 := by
  let h0 : Store := (Store.empty.push o1).push o2
  let m : Mp := ⟨fun i g => if g = 0 then (if i = 0 then x1 else if i = 1 then x2 else none) else none⟩
  have n0 : h0.next = 2 := rfl
  have hget : ∀ id, h0.get id = if id = 1 then o2 else if id = 0 then o1 else .none := fun id => by
    show ((Store.empty.push o1).push o2).get id = _
    rw [Store.get_push, Store.get_push, Store.get_empty]
    show (if 1 = id then o2 else if 0 = id then o1 else Ob.none) = _
    by_cases a : id = 1
    · rw [if_pos a.symm, if_pos a]
    · rw [if_neg (Ne.symm a), if_neg a]
      by_cases b : id = 0
      · rw [if_pos b.symm, if_pos b]
      · rw [if_neg (Ne.symm b), if_neg b]
  have nl : ∀ id gen, ¬ Live (h0.get id) gen := fun id gen => by
    rw [hget]
    by_cases a : id = 1
    · rw [if_pos a]; exact l2.nl gen
    · rw [if_neg a]
      by_cases b : id = 0
      · rw [if_pos b]; exact l1.nl gen
      · rw [if_neg b]; exact Live.junk
  have g0 : h0.get 0 = o1 := by rw [hget, if_neg (by omega), if_pos rfl]
  have g1 : h0.get 1 = o2 := by rw [hget, if_pos rfl]
  refine ⟨m, h0, ⟨fun id gen p o n h _ => absurd h (nl _ _), fun id gen id' gen' p o n o' n' h _ _ _ => absurd h (nl _ _), fun id gen hid => ?_, fun id hid => ?_, fun id gen g h _ => absurd h (nl _ _), fun id gen sz size el p o n hg hm => ⟨?_, fun id' gen' p' o' n' h _ => absurd h (nl _ _)⟩⟩,
    fun p ⟨id, gen, o, n, h, _⟩ => nl _ _ h, l1.fl h0 0 (by omega) g0, l2.fl h0 1 (by omega) g1, l1.vr m 0 ?_, l2.vr m 1 ?_⟩
  · show (if gen = 0 then (if id = 0 then x1 else if id = 1 then x2 else none) else none) = none
    rw [n0] at hid
    rw [if_neg (show ¬ id = 0 by omega), if_neg (show ¬ id = 1 by omega)]; split <;> rfl
  · rw [n0] at hid
    rw [hget, if_neg (by omega), if_neg (by omega)]
  · have hm : (if gen = 0 then (if id = 0 then x1 else if id = 1 then x2 else none) else none) = some (p, o, n) := hm
    rw [hget] at hg
    by_cases a : id = 1
    · rw [if_pos a] at hg
      rw [a, if_neg (show ¬ (1 : Nat) = 0 by omega), if_pos rfl] at hm
      exact l2.far m gen sz size el p o n hg hm
    · rw [if_neg a] at hg
      by_cases b : id = 0
      · rw [if_pos b] at hg
        rw [b, if_pos rfl] at hm
        exact l1.far m gen sz size el p o n hg hm
      · rw [if_neg b] at hg; cases hg
  · show (if (0 : Nat) = 0 then (if (0 : Nat) = 0 then x1 else if (0 : Nat) = 1 then x2 else none) else none) = x1
    rw [if_pos rfl, if_pos rfl]
  · show (if (0 : Nat) = 0 then (if (1 : Nat) = 0 then x1 else if (1 : Nat) = 1 then x2 else none) else none) = x2
    rw [if_pos rfl, if_neg (by omega), if_pos rfl]
theorem grown_far {m m' : Mp} {h h' : Store} {w w' : World} (t : TR m h w m' h' w') (no : ∀ p, ¬ Own m h p) : RowKit.Grown w w' ∧ RowKit.Below w.heap.size w w' := by
  have keep : ∀ p, p < w.heap.size → w'.heap[p]? = w.heap[p]? := fun p hp => t.fp p hp (no p)
  refine ⟨⟨⟨t.os, t.output, fun i hi => ?_⟩, t.fz, t.size⟩, ⟨t.os, t.tape, t.output, t.size, keep⟩⟩
  rw [keep i hi]
  cases w.heap[i]? with
  | none => rfl
  | some ob => cases ob <;> first | exact ⟨rfl, rfl, rfl, fun _ _ => rfl⟩ | exact .inr ⟨rfl, rfl⟩ | rfl
/-- ExplainShortest, called -/
theorem short_calls (W : World) (v1 v2 : Value) (z3 z4 z5 z6 z7 : Int) (h1 : IntsV W v1) (h2 : IntsV W v2) (r3 : Rg z3) (r4 : Rg z4) (r5 : Rg z5) (r6 : Rg z6) (r7 : Rg z7) :
    Calls Try.prog 5 #[v1, v2, .int .i64 z3, .int .i64 z4, .int .i64 z5, .int .i64 z6, .int .i64 z7] W fun e W' => e = .returned (.bool true) ∧ RowKit.Grown W W' ∧ RowKit.Below W.heap.size W W' := by
  obtain ⟨M1, f1, lv1, o1, x1, l1⟩ := laid_of h1
  obtain ⟨M2, f2, lv2, o2, x2, l2⟩ := laid_of h2
  obtain ⟨m, h0, hr, no, fl1, fl2, vr1, vr2⟩ := two_far l1 l2
  obtain ⟨v, h', e, _, rfl⟩ := okk_run (short_run 0 h0 (lv1 0) (lv2 1) M1 M2 f1 f2 fl1 l1.lim l1.frg fl2 l2.lim l2.frg z3 z4 z5 z6 z7 r3 r4 r5 r6 r7)
  have ck := fn_ok Try.prog pl Try.checked.mixed (with3_ok (run_ok Try.prog pl Try.checked.mixed (0 + 7)))
  have k := ck 5 (.cons (lv1 0) (.cons (lv2 1) (.cons (I z3) (.cons (I z4) (.cons (I z5) (.cons (I z6) (.cons (I z7) .nil))))))) h0 (.bool true) h' e m W #[v1, v2, .int .i64 z3, .int .i64 z4, .int .i64 z5, .int .i64 z6, .int .i64 z7] hr rfl
  refine (k fun j hj => ?_).mono fun e w' he => ?_
  · have hj : j < 7 := hj
    have : j = 0 ∨ j = 1 ∨ j = 2 ∨ j = 3 ∨ j = 4 ∨ j = 5 ∨ j = 6 := by omega
    rcases this with rfl | rfl | rfl | rfl | rfl | rfl | rfl
    · exact vr1
    · exact vr2
    · exact VR_int m _ r3
    · exact VR_int m _ r4
    · exact VR_int m _ r5
    · exact VR_int m _ r6
    · exact VR_int m _ r7
  · obtain ⟨m', x, rfl, hx, t⟩ := he
    cases hx
    exact ⟨rfl, grown_far t no⟩
end
end Go.Proofs.Ytglhpnieiphahaa.D
