/- Functions: the run of a call, and that the program's call comes to it. -/
import Derived.Test.YtglhpnieiphahaaEY
set_option autoImplicit false
set_option linter.unusedSimpArgs false
set_option linter.unusedVariables false
namespace Go.Proofs.Ytglhpnieiphahaa.D
open Go
noncomputable section

structure FnC where run : (Nat → V → Store → Rc) → V → Store → Rc
def failFn : FnC := ⟨fun _ _ _ => .fail⟩
def one (rs : List ResultVar) (vs : V) : V := match rs with | [_] => vhd vs | _ => .tup vs
def depth8 (n : Nat) : Nat := if n ≤ 8 then 0 else if n ≤ 64 then 1 else if n ≤ 512 then 2 else 3
/-- what a function gives back -/
structure RfC where run : E8 → Store → Rc
def retF {P : Program} (c : Ctx P) (rs : List ResultVar) : RfC :=
  match rs with
  | [.tmp t] => ⟨fun e h => (tmpK Rc c.d c.keep [] t).run .nil e fun v => .ok v h⟩
  | [] => ⟨fun _ h => .ok (.tup .nil) h⟩
  | [.cell a t] => ⟨fun e h => (retC c [.cell a t]).run e h fun vs => .ok (vhd vs) h⟩
  | a :: b :: rs => ⟨fun e h => (retC c (a :: b :: rs)).run e h fun vs => .ok (.tup vs) h⟩
theorem retF_run {P : Program} (c : Ctx P) (rs : List ResultVar) (e : E8) (h : Store) : (retF c rs).run e h = (retC c rs).run e h fun vs => .ok (one rs vs) h := by
  match rs with
  | [.tmp t] => rfl
  | [] => rfl
  | [.cell a t] => rfl
  | a :: b :: rs => cases a <;> rfl
def fnC (P : Program) (pl : Plan) (f : Nat) : FnC :=
  match fnAt P f with
  | some fn => match fn.body with
    | some b =>
      let c : Ctx P := ⟨pl, f, depth8 (pl.keep f).length, packK (pl.keep f) 0, fn.ntmps⟩
      if (pl.keep f).length ≤ 255 ∧ sortedB (pl.keep f) = true ∧ (pl.keep f).length ≤ 8 ^ (c.d + 1) then
        ⟨fun call args h => ifB (Nat.ble (vlen args) fn.ntmps) (endR h.next ((codeC c b).run call ((wbC c.d c.keep (List.range (fn.params.size + fn.nfree))).run (skOf args) e0) h) fun e h' =>
          (retF c fn.results.toList).run e h')⟩
      else failFn
    | none => failFn
  | none => failFn
def run (P : Program) (pl : Plan) (n : Nat) : Nat → V → Store → Rc :=
  Nat.rec (motive := fun _ => Nat → V → Store → Rc) (fun _ _ _ => Rc.fail) (fun _ ih f args h => (fnC P pl f).run ih args h) n

theorem vnth_ge (l : V) (i : Nat) (h : vlen l ≤ i) : vnth l i = .junk := by
  induction l generalizing i with
  | cons a t _ iht =>
    cases i with
    | zero => simp at h
    | succ i => exact iht i (by simpa using h)
  | _ => rfl
theorem eg_e0 (n i : Nat) : (eg n i).run e0 = .junk := by
  induction n generalizing i with
  | zero =>
    show (sel8 i _ _ _ _ _ _ _ _ : G8).run e0 = .junk
    match i with
    | 0 | 1 | 2 | 3 | 4 | 5 | 6 => rfl
    | n + 7 => rfl
  | succ n ih =>
    rw [eg_succ]
    have : chF (i % 8) e0 = e0 := by
      rcases lt8 (Nat.mod_lt i (show 8 > 0 by omega)) with q | q | q | q | q | q | q | q <;> rw [q] <;> rfl
    rw [this]; exact ih _
theorem idxOf_range {t n i : Nat} (h : idxOf t (List.range n) = some i) : i = t := by
  obtain ⟨h1, h2⟩ := idxOf_lt h
  rw [List.getElem?_eq_getElem h1] at h2
  simpa using h2
theorem results_run {P : Program} {fn : Func} {c : Ctx P} {m : Mp} {e : E8} {h h' : Store} {a : Act} {w : World} {v : V} (hr : HR m h w.heap) (hl : LR m c.d c.keep [] .nil e a)
    (hrun : ((retC c fn.results.toList).run e h fun vs => .ok (one fn.results.toList vs) h) = .ok v h') : h' = h ∧ ∃ x, (results fn a.tmps).run P w = .ok x w ∧ VR m v x := by
  obtain ⟨vs, xs, h1, h2, h3, ⟨l, h4⟩, h5⟩ := retC_ok hr hl _ hrun
  cases h1
  refine ⟨rfl, if h : xs.length = 1 then xs[0] else .tuple xs.toArray, ?_, ?_⟩
  · unfold results
    rw [Array.mapM_eq_mapM_toList]
    simp only [Sem.run_bind, map_eq_pure_bind]
    have : ∀ {α β : Type} (z : Sem α) (f : α → Sem β) (w : World), (z >>= f).run P w = (z.run P w).andThen fun a w' => (f a).run P w' := fun z f w => Sem.run_bind ..
    erw [h5]
    simp
  · have hlen : xs.length = fn.results.toList.length := by
      have key : ∀ (rs : List ResultVar) (f : ResultVar → Sem Value) (w w' : World) (xs : List Value), (rs.mapM f).run P w = .ok xs w' → xs.length = rs.length := by
        intro rs f
        induction rs with
        | nil => intro w w' xs h; simp at h; simp [← h.1]
        | cons r rs ih =>
          intro w w' xs h
          rw [List.mapM_cons] at h
          simp only [Sem.run_bind] at h
          cases hz : (f r).run P w with
          | halt x w1 => rw [hz] at h; simp [Result.andThen] at h
          | ok y w1 =>
            rw [hz] at h; simp only [Result.andThen_ok] at h
            cases hz2 : (rs.mapM f).run P w1 with
            | halt x w2 => rw [hz2] at h; simp [Result.andThen] at h
            | ok ys w2 =>
              rw [hz2] at h; simp at h
              have := ih w1 w2 ys hz2
              rw [← h.1]; simp [this]
      exact key _ _ _ _ _ h5
    unfold one
    split
    · rename_i rv hrs
      rw [hrs] at hlen
      have hx1 : xs.length = 1 := by simpa using hlen
      rw [dif_pos hx1]
      have := h3 0 (by omega)
      rw [vnth_hd]
      simpa [List.getD, hx1] using this
    · rename_i hne
      have hx1 : ¬ xs.length = 1 := by
        intro q
        rw [q] at hlen
        match hrs : fn.results.toList, hlen with
        | [rv], _ => exact hne rv hrs
      rw [dif_neg hx1]
      refine .tup m vs xs.toArray (by simpa using h2) fun j hj => ?_
      have hj : j < xs.length := by simpa using hj
      have := h3 j hj
      simpa [List.getD, Array.getD, hj] using this

theorem fn_ok (P : Program) (pl : Plan) (hm : P.follows .mixedOrders = true) {call : Nat → V → Store → Rc} (ih : CallOK P call) : CallOK P (fun f args h => (fnC P pl f).run call args h) := by
    intro f args h v h' e m w cargs hr hl hargs
    have e : (fnC P pl f).run call args h = .ok v h' := e
    unfold fnC at e
    rw [fnAt_eq] at e
    split at e
    rotate_left
    · cases e
    rename_i fn hfn
    split at e
    rotate_left
    · cases e
    rename_i b hb
    dsimp only at e
    split at e
    rotate_left
    · cases e
    rename_i hd0
    have hd := KOK.pack hd0.1 hd0.2.1 hd0.2.2
    obtain ⟨hsz, e2⟩ := ifB_ok e
    have hsz : cargs.size ≤ fn.ntmps := by rw [← hl]; exact Nat.le_of_ble_eq_true hsz
    obtain ⟨hok, hext, hleaf⟩ := endR_ok _ e2
    refine calls_of_wp hfn hb ?_
    let c : Ctx P := ⟨pl, f, depth8 (pl.keep f).length, packK (pl.keep f) 0, fn.ntmps⟩
    have st : ST c m h w m [] .nil ((wbC c.d c.keep (List.range (fn.params.size + fn.nfree))).run (skOf args) e0) h { tmps := cargs ++ Array.replicate (fn.ntmps - cargs.size) Go.undef, defers := [] } w := by
      refine ⟨.refl hr, LR.back (ns := List.range (fn.params.size + fn.nfree)) (s := skOf args) (e := e0) (fun t => ?_) hd, by simp; exact Nat.add_sub_cancel' hsz, rfl⟩
      unfold accT
      cases hi : idxOf t (List.range (fn.params.size + fn.nfree)) with
      | some i =>
        obtain rfl := idxOf_range hi
        simp only []
        rw [vnthC_eq, sknth_of]
        by_cases q : i < cargs.size
        · have := hargs i q
          have e1 : (cargs ++ Array.replicate (fn.ntmps - cargs.size) Go.undef).getD i Go.undef = cargs.getD i Go.undef := by
            simp [Array.getD, Array.getElem_append, q, show i < cargs.size + (fn.ntmps - cargs.size) by omega]
          rw [e1]; exact this
        · have : vnth args i = .junk := by
            rw [← hl] at q
            exact vnth_ge _ _ (by omega)
          rw [this]; exact .junk _ _
      | none =>
        simp only []
        cases kpos c.keep t with
        | some j => show VR m ((eg c.d j).run e0) _; rw [eg_e0]; exact .junk _ _
        | none => exact .junk _ _
    have hcode := code_ok (c := c) (m₀ := m) (h₀ := h) (w₀ := w) hm hd ih b _ h m _ w _ hok st rfl
    refine Code.wp_mono (fun x a w' hx => ?_) hcode
    have fin : ∀ m' e1 h1, ST c m h w m' [] .nil e1 h1 a w' → Leaf ((codeC c b).run (call) ((wbC c.d c.keep (List.range (fn.params.size + fn.nfree))).run (skOf args) e0) h) e1 h1 →
        a.defers = [] ∧ ∃ x, (results fn a.tmps).run P w' = .ok x w' ∧ ∃ m' y, Ending.returned x = .returned y ∧ VR m' v y ∧ TR m h w m' h' w' := by
      intro m' e1 h1 st' hl
      obtain ⟨h2, e3, hw⟩ := hleaf e1 h1 hl
      rw [retF_run] at e3
      obtain ⟨rfl, x, r1, r2⟩ := results_run (c := c) st'.tr.hr st'.lr e3
      exact ⟨st'.defers, x, r1, m', x, rfl, r2, st'.tr.weak hw⟩
    rcases Ans.leaf _ hx with ⟨e1, h1, m', hxx, hl, st'⟩ | ⟨j, e1, h1, hs⟩
    · rcases hxx with rfl | rfl
      · exact fin m' e1 h1 st' hl
      · exact fin m' e1 h1 st' hl
    · exact absurd hs (hext j e1 h1)

theorem run_ok (P : Program) (pl : Plan) (hm : P.follows .mixedOrders = true) (n : Nat) : CallOK P (run P pl n) := by
  induction n with
  | zero => intro f args h v h' e; cases e
  | succ n ih => exact fn_ok P pl hm ih
end
end Go.Proofs.Ytglhpnieiphahaa.D
