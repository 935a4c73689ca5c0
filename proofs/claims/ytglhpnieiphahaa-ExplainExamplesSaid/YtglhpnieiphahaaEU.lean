/- Functions: the run of a call, and that the program's call comes to it. -/
import Derived.Test.YtglhpnieiphahaaET
set_option autoImplicit false
namespace Go.Proofs.Ytglhpnieiphahaa.D
open Go
noncomputable section

structure FnC where run : (Nat → V → Store → Rc) → V → Store → Rc
def failFn : FnC := ⟨fun _ _ _ => .fail⟩
/-- what a body's end gives -/
def endR (r : Rs) (k : E8 → Store → Rc) : Rc := Rs.rec (motive := fun _ => Rc) Rc.fail k (fun _ _ _ => Rc.fail) k r
def one (rs : List ResultVar) (vs : V) : V := match rs with | [_] => vhd vs | _ => .tup vs
def depth8 (n : Nat) : Nat := if n ≤ 8 then 1 else if n ≤ 64 then 2 else if n ≤ 512 then 3 else 4
def fnC (P : Program) (pl : Plan) (f : Nat) : FnC :=
  match P.funcs[f]? with
  | some fn => match fn.body with
    | some b =>
      let c : Ctx := ⟨P, pl, f, depth8 (pl.keep f).length, pl.keep f, fn.ntmps⟩
      if c.keep.length ≤ 8 ^ c.d then
        ⟨fun call args h => ifB (Nat.ble (vlen args) fn.ntmps) (endR ((codeC c b).run call ((wbC c.d (List.range (fn.params.size + fn.nfree)) c.keep 0).run args e0) h) fun e h' =>
          (retC c fn.results.toList).run e h' fun vs => .ok (one fn.results.toList vs) h')⟩
      else failFn
    | none => failFn
  | none => failFn
def run (P : Program) (pl : Plan) (n : Nat) : Nat → V → Store → Rc :=
  Nat.rec (motive := fun _ => Nat → V → Store → Rc) (fun _ _ _ => Rc.fail) (fun _ ih f args h => (fnC P pl f).run ih args h) n

theorem vnth_ge (l : V) (i : Nat) (h : vlen l ≤ i) : vnth l i = .junk := by
  induction l generalizing i with
  | cons a t _ iht =>
    cases i with
    | zero => simp at h
    | succ i => exact iht i (by simpa using h)
  | _ => rfl
theorem eg_e0 (n i : Nat) : (eg n i).run e0 = .junk := by
  induction n generalizing i with
  | zero => rfl
  | succ n ih =>
    show (eg n (i / 8)).run ((chC (i % 8)).run e0) = .junk
    have : (chC (i % 8)).run e0 = e0 := by
      rcases lt8 (Nat.mod_lt i (show 8 > 0 by omega)) with q | q | q | q | q | q | q | q <;> rw [q] <;> rfl
    rw [this]; exact ih _
theorem idxOf_range {t n i : Nat} (h : idxOf t (List.range n) = some i) : i = t := by
  obtain ⟨h1, h2⟩ := idxOf_lt h
  rw [List.getElem?_eq_getElem h1] at h2
  simpa using h2
theorem endR_ok {r : Rs} {k : E8 → Store → Rc} {v : V} {h : Store} (e : endR r k = .ok v h) : ∃ e1 h1, (r = .nrm e1 h1 ∨ r = .ret e1 h1) ∧ k e1 h1 = .ok v h := by
  cases r with
  | nrm e1 h1 => exact ⟨e1, h1, .inl rfl, e⟩
  | ret e1 h1 => exact ⟨e1, h1, .inr rfl, e⟩
  | _ => cases e

theorem results_run {P : Program} {fn : Func} {c : Ctx} (hP : c.P = P) {m : Mp} {e : E8} {h h' : Store} {a : Act} {w : World} {v : V} (hr : HR m h w.heap) (hl : LR m c.d c.keep [] .nil e a)
    (hrun : ((retC c fn.results.toList).run e h fun vs => .ok (one fn.results.toList vs) h) = .ok v h') : h' = h ∧ ∃ x, (results fn a.tmps).run P w = .ok x w ∧ VR m v x := by
  obtain ⟨vs, xs, h1, h2, h3, ⟨l, h4⟩, h5⟩ := retC_ok hr hl _ hrun
  cases h1
  refine ⟨rfl, if h : xs.length = 1 then xs[0] else .tuple xs.toArray, ?_, ?_⟩
  · subst hP
    unfold results
    rw [Array.mapM_eq_mapM_toList]
    simp only [Sem.run_bind, map_eq_pure_bind]
    have : ∀ {α β : Type} (z : Sem α) (f : α → Sem β) (w : World), (z >>= f).run c.P w = (z.run c.P w).andThen fun a w' => (f a).run c.P w' := fun z f w => Sem.run_bind ..
    erw [h5]
    simp
  · have hlen : xs.length = fn.results.toList.length := by
      have key : ∀ (rs : List ResultVar) (f : ResultVar → Sem Value) (w w' : World) (xs : List Value), (rs.mapM f).run c.P w = .ok xs w' → xs.length = rs.length := by
        intro rs f
        induction rs with
        | nil => intro w w' xs h; simp at h; simp [← h.1]
        | cons r rs ih =>
          intro w w' xs h
          rw [List.mapM_cons] at h
          simp only [Sem.run_bind] at h
          cases hz : (f r).run c.P w with
          | halt x w1 => rw [hz] at h; simp [Result.andThen] at h
          | ok y w1 =>
            rw [hz] at h; simp only [Result.andThen_ok] at h
            cases hz2 : (rs.mapM f).run c.P w1 with
            | halt x w2 => rw [hz2] at h; simp [Result.andThen] at h
            | ok ys w2 =>
              rw [hz2] at h; simp at h
              have := ih w1 w2 ys hz2
              rw [← h.1]; simp [this]
      exact key _ _ _ _ _ h5
    unfold one
    split
    · rename_i rv hrs
      rw [hrs] at hlen
      have hx1 : xs.length = 1 := by simpa using hlen
      rw [dif_pos hx1]
      have := h3 0 (by omega)
      rw [vnth_hd]
      simpa [List.getD, hx1] using this
    · rename_i hne
      have hx1 : ¬ xs.length = 1 := by
        intro q
        rw [q] at hlen
        match hrs : fn.results.toList, hlen with
        | [rv], _ => exact hne rv hrs
      rw [dif_neg hx1]
      refine .tup m vs xs.toArray (by simpa using h2) fun j hj => ?_
      have hj : j < xs.length := by simpa using hj
      have := h3 j hj
      simpa [List.getD, Array.getD, hj] using this

theorem run_ok (P : Program) (pl : Plan) (hm : P.follows .mixedOrders = true) (n : Nat) : CallOK P (run P pl n) := by
  induction n with
  | zero => intro f args h v h' e; cases e
  | succ n ih =>
    intro f args h v h' e m w cargs hr hl hargs
    have e : (fnC P pl f).run (run P pl n) args h = .ok v h' := e
    unfold fnC at e
    split at e
    rotate_left
    · cases e
    rename_i fn hfn
    split at e
    rotate_left
    · cases e
    rename_i b hb
    dsimp only at e
    split at e
    rotate_left
    · cases e
    rename_i hd
    obtain ⟨hsz, e2⟩ := ifB_ok e
    have hsz : cargs.size ≤ fn.ntmps := by rw [← hl]; exact Nat.le_of_ble_eq_true hsz
    obtain ⟨e1, h1, hres, e3⟩ := endR_ok e2
    refine calls_of_wp hfn hb ?_
    let c : Ctx := ⟨P, pl, f, depth8 (pl.keep f).length, pl.keep f, fn.ntmps⟩
    have st : ST c m h w m [] .nil ((wbC c.d (List.range (fn.params.size + fn.nfree)) c.keep 0).run args e0) h { tmps := cargs ++ Array.replicate (fn.ntmps - cargs.size) Go.undef, defers := [] } w := by
      refine ⟨.refl hr, LR.back (ns := List.range (fn.params.size + fn.nfree)) (s := args) (e := e0) (fun t => ?_) hd, by simp; exact Nat.add_sub_cancel' hsz, rfl⟩
      unfold accT
      cases hi : idxOf t (List.range (fn.params.size + fn.nfree)) with
      | some i =>
        obtain rfl := idxOf_range hi
        simp only []
        rw [vnthC_eq]
        by_cases q : i < cargs.size
        · have := hargs i q
          have e1 : (cargs ++ Array.replicate (fn.ntmps - cargs.size) Go.undef).getD i Go.undef = cargs.getD i Go.undef := by
            simp [Array.getD, Array.getElem_append, q, show i < cargs.size + (fn.ntmps - cargs.size) by omega]
          rw [e1]; exact this
        · have : vnth args i = .junk := by
            rw [← hl] at q
            exact vnth_ge _ _ (by omega)
          rw [this]; exact .junk _ _
      | none =>
        simp only []
        cases idxOf t c.keep with
        | some j => show VR m ((eg c.d j).run e0) _; rw [eg_e0]; exact .junk _ _
        | none => exact .junk _ _
    have hcode := code_ok (c := c) (m₀ := m) (h₀ := h) (w₀ := w) hm hd ih b _ h m _ w _ (by rcases hres with q | q <;> (rw [q]; exact fun q => (nomatch q))) st rfl
    refine Code.wp_mono (fun x a w' hx => ?_) hcode
    have fin : ∀ m', ST c m h w m' [] .nil e1 h1 a w' → a.defers = [] ∧ ∃ x, (results fn a.tmps).run P w' = .ok x w' ∧ ∃ m' y, Ending.returned x = .returned y ∧ VR m' v y ∧ TR m h w m' h' w' := by
      intro m' st'
      obtain ⟨rfl, x, r1, r2⟩ := results_run (P := P) (c := c) rfl st'.tr.hr st'.lr e3
      exact ⟨st'.defers, x, r1, m', x, rfl, r2, st'.tr⟩
    rcases hres with q | q
    · rw [q] at hx
      obtain ⟨rfl, m', st'⟩ := hx
      exact fin m' st'
    · rw [q] at hx
      obtain ⟨rfl, m', st'⟩ := hx
      exact fin m' st'

end
end Go.Proofs.Ytglhpnieiphahaa.D
