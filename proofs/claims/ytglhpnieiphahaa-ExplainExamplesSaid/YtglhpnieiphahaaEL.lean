/- A region in the order of its text; its variables are written back behind it. -/
import Derived.Test.YtglhpnieiphahaaEK
set_option autoImplicit false
namespace Go.Proofs.Ytglhpnieiphahaa.D
open Go
noncomputable section

inductive Rs : Type
  | fail
  | nrm (e : E8) (h : Store)
  | ext (k : Nat) (e : E8) (h : Store)
  | ret (e : E8) (h : Store)
structure RgC where run : (Nat → V → Store → Rc) → V → E8 → Store → Rs
def failR : RgC := ⟨fun _ _ _ _ => .fail⟩

/-- what is fixed in a function -/
structure Ctx where
  P : Program
  pl : Plan
  fid : Nat
  d : Nat
  keep : List Nat
  nt : Nat

/-! the region's values are written back -/
structure WC where run : V → E8 → E8
def wbC (d : Nat) (ns : List Nat) : List Nat → Nat → WC
  | [], _ => ⟨fun _ e => e⟩
  | t :: ks, j => match idxOf t ns with
    | some i => ⟨fun s e => (wbC d ns ks (j + 1)).run s ((es d j).run ((vnthC i).run s e) e)⟩
    | none => wbC d ns ks (j + 1)
theorem idxOf_lt {t i : Nat} {l : List Nat} (h : idxOf t l = some i) : i < l.length ∧ l[i]? = some t := by
  induction l generalizing i with
  | nil => cases h
  | cons x xs ih =>
    simp only [idxOf] at h
    split at h
    · rename_i e; cases h; subst e; exact ⟨by simp, rfl⟩
    · cases hx : idxOf t xs with
      | none => rw [hx] at h; cases h
      | some k =>
        rw [hx] at h; cases h
        obtain ⟨h1, h2⟩ := ih hx
        exact ⟨by simp; omega, by simpa using h2⟩
theorem wbC_spec (d : Nat) (ns : List Nat) (ks : List Nat) : ∀ (j : Nat) (s : V) (e : E8) (q : Nat), q < 8 ^ d → j + ks.length ≤ 8 ^ d →
    (eg d q).run ((wbC d ns ks j).run s e) = if j ≤ q then match ks[q - j]? with
      | some t => (match idxOf t ns with | some i => vnth s i | none => (eg d q).run e)
      | none => (eg d q).run e else (eg d q).run e := by
  induction ks with
  | nil => intro j s e q _ _; simp [wbC]
  | cons t ks ih =>
    intro j s e q hq hl
    simp only [List.length_cons] at hl
    have hj : j < 8 ^ d := by omega
    cases hi : idxOf t ns with
    | none =>
      have e0 : wbC d ns (t :: ks) j = wbC d ns ks (j + 1) := by simp [wbC, hi]
      rw [e0, ih (j + 1) s e q hq (by omega)]
      by_cases h1 : j + 1 ≤ q
      · rw [if_pos h1, if_pos (by omega), show q - j = (q - (j + 1)) + 1 by omega, List.getElem?_cons_succ]
      · rw [if_neg h1]
        by_cases h2 : j ≤ q
        · obtain rfl : j = q := by omega
          rw [if_pos h2, Nat.sub_self, List.getElem?_cons_zero]; simp [hi]
        · rw [if_neg h2]
    | some i =>
      have e0 : (wbC d ns (t :: ks) j).run s e = (wbC d ns ks (j + 1)).run s ((es d j).run ((vnthC i).run s e) e) := by simp [wbC, hi]
      rw [e0, ih (j + 1) s _ q hq (by omega), eg_es d j q hj hq, vnthC_eq]
      by_cases h1 : j + 1 ≤ q
      · rw [if_neg (show ¬ j = q by omega), if_pos h1, if_pos (show j ≤ q by omega), show q - j = (q - (j + 1)) + 1 by omega, List.getElem?_cons_succ]
      · rw [if_neg h1]
        by_cases h2 : j ≤ q
        · obtain rfl : j = q := by omega
          rw [if_pos h2, if_pos rfl, Nat.sub_self, List.getElem?_cons_zero]; simp [hi]
        · rw [if_neg h2, if_neg (by omega)]
/-- behind the region, with nothing on the stack -/
theorem LR.back {m : Mp} {d : Nat} {keep ns : List Nat} {s : V} {e : E8} {a : Act} (h : LR m d keep ns s e a) (hk : keep.length ≤ 8 ^ d) : LR m d keep [] .nil ((wbC d ns keep 0).run s e) a := by
  intro t
  have ht := h t
  unfold accT at ht ⊢
  simp only [idxOf]
  cases hkp : idxOf t keep with
  | none => exact .junk _ _
  | some q =>
    obtain ⟨h1, h2⟩ := idxOf_lt hkp
    show VR m ((eg d q).run ((wbC d ns keep 0).run s e)) _
    rw [wbC_spec d ns keep 0 s e q (by omega) (by omega), if_pos (Nat.zero_le _), Nat.sub_zero, h2]
    cases hn : idxOf t ns with
    | none => simp only [hn, hkp] at ht ⊢; exact ht
    | some i => simp only [hn] at ht ⊢; rw [vnthC_eq] at ht; exact ht

/-! operations one behind the other -/
def execR (r : Rc) (k : V → Store → Rs) : Rs := Rc.rec (motive := fun _ => Rs) Rs.fail k r
theorem execR_ok {r : Rc} {k : V → Store → Rs} (h : execR r k ≠ .fail) : ∃ v h', r = .ok v h' ∧ execR r k = k v h' := by
  cases r with
  | fail => exact absurd rfl h
  | ok v h' => exact ⟨v, h', rfl, rfl⟩
/-- is the guard's value b? -/
def onGd (want : Bool) (v : V) (y n : Rs) : Rs := (V.rec (motive := fun _ => Rs) (Rs.fail) (n) (fun _ _ => Rs.fail) (fun b => Bool.rec (Bool.rec y n b) (Bool.rec n y b) want) (fun _ _ => Rs.fail) (Rs.fail) (fun _ _ _ _ _ => Rs.fail) (fun _ _ _ _ => Rs.fail) (Rs.fail) (fun _ _ _ _ _ _ => Rs.fail) (fun _ _ _ _ _ _ => Rs.fail) (fun _ _ _ => Rs.fail) (fun _ _ => Rs.fail) (fun _ _ _ => Rs.fail) (Rs.fail) (Rs.fail) (fun _ => Rs.fail) (Rs.fail) (fun _ _ _ _ => Rs.fail) (Rs.fail) (fun _ _ _ _ _ _ => Rs.fail) (fun _ _ _ _ _ => Rs.fail) (fun _ _ _ _ _ => Rs.fail)) v
theorem onGd_ok {want : Bool} {v : V} {y n : Rs} (h : onGd want v y n ≠ .fail) : (v = .bool want ∧ onGd want v y n = y) ∨ ((v = .bool (!want) ∨ v = .undef) ∧ onGd want v y n = n) := by
  cases v with
  | bool b => cases b <;> cases want <;> first | exact .inl ⟨rfl, rfl⟩ | exact .inr ⟨.inl rfl, rfl⟩
  | undef => exact .inr ⟨.inr rfl, rfl⟩
  | _ => exact absurd rfl h

/-- does a store fill a variable that is never written again? -/
def frzOf (c : Ctx) (o : Oper) : Option Nat :=
  match o.op with
  | .store _ (.tmp t) _ => if inL (some t) (c.pl.frzSt c.fid) then some t else none
  | _ => none
def oneC (c : Ctx) (ns : List Nat) (o : Oper) (next : List Nat → RgC) : RgC × RgC :=
  match o.dst with
  | some t => if t < c.nt then
      (⟨fun call s e h => execR ((opC c.P c.pl c.fid o).run call (fun x => (accO c.d c.keep ns x).run s e) h) fun v h' => (next (t :: ns)).run call (.cons v s) e h'⟩,
       ⟨fun call s e h => (next (t :: ns)).run call (.cons .undef s) e h⟩)
    else (failR, failR)
  | none => match frzOf c o with
    | some t => (⟨fun call s e h => execR ((opC c.P c.pl c.fid o).run call (fun x => (accO c.d c.keep ns x).run s e) h) fun _ h' =>
        execR (frz 40 ((accT c.d c.keep ns t).run s e) h') fun v h'' => (next (t :: ns)).run call (.cons v s) e h''⟩,
       ⟨fun call s e h => (next (t :: ns)).run call (.cons ((accT c.d c.keep ns t).run s e) s) e h⟩)
    | none => (⟨fun call s e h => execR ((opC c.P c.pl c.fid o).run call (fun x => (accO c.d c.keep ns x).run s e) h) fun _ h' => (next ns).run call s e h'⟩,
       ⟨fun call s e h => (next ns).run call s e h⟩)
def seqC (c : Ctx) (ops : Array Oper) (fin : List Nat → RgC) : List Oper → List Nat → RgC
  | [], ns => fin ns
  | o :: os, ns => match o.guard with
    | none => (oneC c ns o (seqC c ops fin os)).1
    | some (j, want) => match (ops[j]?).bind (·.dst) with
      | some t => ⟨fun call s e h => onGd want ((accT c.d c.keep ns t).run s e) ((oneC c ns o (seqC c ops fin os)).1.run call s e h) ((oneC c ns o (seqC c ops fin os)).2.run call s e h)⟩
      | none => failR

/-- the state between operations -/
structure ST (c : Ctx) (m₀ : Mp) (h₀ : Store) (w₀ : World) (m : Mp) (ns : List Nat) (s : V) (e : E8) (h : Store) (a : Act) (w : World) : Prop where
  tr : TR m₀ h₀ w₀ m h w
  lr : LR m c.d c.keep ns s e a
  size : a.tmps.size = c.nt
  defers : a.defers = []

theorem yielded_of {m : Mp} {ops : Array Oper} {a : Act} {j t : Nat} (hj : (ops[j]?).bind (·.dst) = some t) {v : V} (hv : VR m v (a.tmps.getD t Go.undef)) :
    (∀ b, v = .bool b → yielded ops a.tmps j = some b) ∧ (v = .undef → yielded ops a.tmps j = none) := by
  have key : yielded ops a.tmps j = match a.tmps[t]? with | some (.bool b) => some b | _ => none := by
    unfold yielded; rw [hj]; rfl
  have hg : a.tmps.getD t Go.undef = (a.tmps[t]?).getD Go.undef := by simp
  rw [hg] at hv
  refine ⟨fun b hb => ?_, fun hu => ?_⟩
  · subst hb
    rw [key]
    cases hx : a.tmps[t]? with
    | none => rw [hx] at hv; cases hv
    | some x => rw [hx] at hv; cases hv; rfl
  · subst hu
    rw [key]
    cases hx : a.tmps[t]? with
    | none => rfl
    | some x => rw [hx] at hv; simp only [Option.getD_some] at hv; cases hv; rfl

/-- one operation, done or skipped -/
theorem oneC_ok {c : Ctx} {call : Nat → V → Store → Rc} (hc : CallOK c.P call) {m₀ : Mp} {h₀ : Store} {w₀ : World} {m : Mp} {ns : List Nat} {s : V} {e : E8} {h : Store} {a : Act} {w : World} (st : ST c m₀ h₀ w₀ m ns s e h a w)
    {o : Oper} {next : List Nat → RgC} {K : Act → World → Prop} {Q : Exit → Act → World → Prop} {r : Rs} (hr : r ≠ .fail)
    (hk : ∀ m' ns' s' h' a' w', ST c m₀ h₀ w₀ m' ns' s' e h' a' w' → (next ns').run call s' e h' = r → K a' w') :
    ((oneC c ns o next).1.run call s e h = r → o.wp c.P a w K Q) ∧ ((oneC c ns o next).2.run call s e h = r → K (a.put o.dst Go.undef) w) := by
  have hx : ∀ x, VR m ((accO c.d c.keep ns x).run s e) (a.eval x) := fun x => st.lr.op x
  unfold oneC
  cases hd : o.dst with
  | some t =>
    simp only
    split
    · rename_i ht
      refine ⟨fun hrun => ?_, fun hrun => ?_⟩
      · obtain ⟨v, h', e1, e2⟩ := execR_ok (r := (opC c.P c.pl c.fid o).run call (fun x => (accO c.d c.keep ns x).run s e) h) (k := fun v h' => (next (t :: ns)).run call (.cons v s) e h') (by rw [show execR _ _ = r from hrun]; exact hr)
        rw [show execR _ _ = r from hrun] at e2
        refine opC_wp c.pl c.fid o hc e1 st.tr.hr hx fun m' x w' hv ht' => ?_
        rw [hd]
        exact hk m' (t :: ns) (.cons v s) h' _ w' ⟨st.tr.trans ht', (st.lr.mono ht'.le).put (by rw [st.size]; exact ht) hv, by rw [put_size]; exact st.size, by rw [put_defers]; exact st.defers⟩ e2.symm
      · exact hk m (t :: ns) (.cons .undef s) h _ w ⟨st.tr, st.lr.put (by rw [st.size]; exact ht) (.undef _), by rw [put_size]; exact st.size, by rw [put_defers]; exact st.defers⟩ hrun
    · exact ⟨fun hrun => absurd hrun.symm hr, fun hrun => absurd hrun.symm hr⟩
  | none =>
    simp only
    cases hf : frzOf c o with
    | some t =>
      simp only
      refine ⟨fun hrun => ?_, fun hrun => ?_⟩
      · obtain ⟨v, h', e1, e2⟩ := execR_ok (r := (opC c.P c.pl c.fid o).run call (fun x => (accO c.d c.keep ns x).run s e) h)
          (k := fun _ h' => execR (frz 40 ((accT c.d c.keep ns t).run s e) h') fun v h'' => (next (t :: ns)).run call (.cons v s) e h'') (by rw [show execR _ _ = r from hrun]; exact hr)
        rw [show execR _ _ = r from hrun] at e2
        obtain ⟨v2, h2, e3, e4⟩ := execR_ok (r := frz 40 ((accT c.d c.keep ns t).run s e) h') (k := fun v h'' => (next (t :: ns)).run call (.cons v s) e h'') (by rw [← e2]; exact hr)
        rw [e4] at e2
        refine opC_wp c.pl c.fid o hc e1 st.tr.hr hx fun m' x w' hv ht' => ?_
        rw [hd]
        obtain ⟨m2, t2, _, v3⟩ := frz_ok 40 _ _ _ _ e3 m' w' ht'.hr _ ((st.lr t).mono ht'.le)
        exact hk m2 (t :: ns) (.cons v2 s) h2 _ w' ⟨(st.tr.trans ht').trans t2, LR.ghost (st.lr.mono (ht'.le.trans t2.le)) (v3.mono m2.pure_le), st.size, st.defers⟩ e2.symm
      · exact hk m (t :: ns) _ h _ w ⟨st.tr, LR.ghost st.lr (st.lr t), st.size, st.defers⟩ hrun
    | none =>
      simp only
      refine ⟨fun hrun => ?_, fun hrun => ?_⟩
      · obtain ⟨v, h', e1, e2⟩ := execR_ok (r := (opC c.P c.pl c.fid o).run call (fun x => (accO c.d c.keep ns x).run s e) h) (k := fun _ h' => (next ns).run call s e h') (by rw [show execR _ _ = r from hrun]; exact hr)
        rw [show execR _ _ = r from hrun] at e2
        refine opC_wp c.pl c.fid o hc e1 st.tr.hr hx fun m' x w' hv ht' => ?_
        rw [hd]
        exact hk m' ns s h' _ w' ⟨st.tr.trans ht', st.lr.mono ht'.le, st.size, st.defers⟩ e2.symm
      · exact hk m ns s h _ w ⟨st.tr, st.lr, st.size, st.defers⟩ hrun

theorem seqC_ok {c : Ctx} {call : Nat → V → Store → Rc} (hc : CallOK c.P call) {m₀ : Mp} {h₀ : Store} {w₀ : World} {ops : Array Oper} {fin : List Nat → RgC} {Q : Exit → Act → World → Prop} {r : Rs} (hr : r ≠ .fail) {e : E8}
    (hq : ∀ m' ns' s' h' a' w', ST c m₀ h₀ w₀ m' ns' s' e h' a' w' → (fin ns').run call s' e h' = r → Q .normal a' w') (os : List Oper) :
    ∀ (m : Mp) (ns : List Nat) (s : V) (h : Store) (a : Act) (w : World), ST c m₀ h₀ w₀ m ns s e h a w → (seqC c ops fin os ns).run call s e h = r → wpList c.P ops Q os a w := by
  induction os with
  | nil => exact fun m ns s h a w st hrun => hq m ns s h a w st hrun
  | cons o os ih =>
    intro m ns s h a w st hrun
    have hone := oneC_ok hc st (o := o) (next := seqC c ops fin os) (K := wpList c.P ops Q os) (Q := Q) hr (fun m' ns' s' h' a' w' st' hrun' => ih m' ns' s' h' a' w' st' hrun')
    unfold wpList
    simp only [seqC] at hrun
    cases hg : o.guard with
    | none =>
      simp only [hg] at hrun
      rw [if_pos (by simp [Region.wanted, hg])]
      exact .inl (hone.1 hrun)
    | some jw =>
      obtain ⟨j, want⟩ := jw
      simp only [hg] at hrun
      cases hj : (ops[j]?).bind (·.dst) with
      | none => simp only [hj] at hrun; exact absurd hrun.symm hr
      | some t =>
        simp only [hj] at hrun
        obtain ⟨y1, y2⟩ := yielded_of hj (st.lr t)
        rcases onGd_ok (want := want) (v := (accT c.d c.keep ns t).run s e) (y := (oneC c ns o (seqC c ops fin os)).1.run call s e h) (n := (oneC c ns o (seqC c ops fin os)).2.run call s e h) (by rw [show onGd _ _ _ _ = r from hrun]; exact hr) with ⟨hv, e1⟩ | ⟨hv, e1⟩
        · rw [if_pos (by simp [Region.wanted, hg, y1 _ hv])]
          rw [show onGd _ _ _ _ = r from hrun] at e1
          exact .inl (hone.1 e1.symm)
        · rw [show onGd _ _ _ _ = r from hrun] at e1
          have hn : Region.wanted o (yielded ops a.tmps) = false := by
            rcases hv with hv | hv
            · simp [Region.wanted, hg, y1 _ hv]
            · simp [Region.wanted, hg, y2 hv]
          rw [if_neg (by simp [hn])]
          exact hone.2 e1.symm

end
end Go.Proofs.Ytglhpnieiphahaa.D
