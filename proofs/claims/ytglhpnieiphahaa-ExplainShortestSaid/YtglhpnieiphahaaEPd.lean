/- Breadth first search, in plain Lean: distances over rows of edges, and the path that they lead along. -/
import Derived.Test.YtglhpnieiphahaaEPc
set_option autoImplicit false
set_option linter.unusedSimpArgs false
set_option linter.unusedVariables false
namespace Go.Proofs.Ytglhpnieiphahaa.D
open Go

abbrev RowF : Type := Nat → List (Int × Int)
structure RowsOK (rows : RowF) (N : Nat) : Prop where
  rg : ∀ u, u < N → ∀ p ∈ rows u, 0 ≤ p.1 ∧ p.1 < N ∧ 0 ≤ p.2 ∧ p.2 < 1000000
  sym : ∀ u v (k : Int), u < N → v < N → ((v : Int), k) ∈ rows u → ((u : Int), k) ∈ rows v
  len : ∀ u, u < N → (rows u).length ≤ 1000000
/-- distances to b -/
structure DistOK (rows : RowF) (N b : Nat) (D : Nat → Int) : Prop where
  z : D b = 0
  zo : ∀ v, v < N → D v = 0 → v = b
  lo : ∀ v, v < N → -1 ≤ D v ∧ D v ≤ N
  par : ∀ v, v < N → 0 < D v → ∃ u k, u < N ∧ D u = D v - 1 ∧ ((u : Int), k) ∈ rows v
  nxt : ∀ u, u < N → 0 ≤ D u → ∀ p ∈ rows u, 0 ≤ D p.1.toNat ∧ D p.1.toNat ≤ D u + 1
/-- the path from a, with m edges -/
def pathD (rows : RowF) (D : Nat → Int) : Nat → Nat → List Int
  | 0, _ => []
  | m + 1, a => match (rows a).find? fun p => decide (D p.1.toNat = D a - 1) with
    | some p => p.2 :: pathD rows D m p.1.toNat
    | none => []
def cntN (D : Nat → Int) : Nat → Nat
  | 0 => 0
  | n + 1 => cntN D n + if D n < 0 then 1 else 0
def upd {α : Type} (f : Nat → α) (t : Nat) (x : α) : Nat → α := fun j => if j = t then x else f j
theorem upd_same {α : Type} (f : Nat → α) (t : Nat) (x : α) : upd f t x t = x := if_pos rfl
theorem upd_ne {α : Type} (f : Nat → α) (t : Nat) (x : α) (j : Nat) (h : j ≠ t) : upd f t x j = f j := if_neg h
theorem cntN_congr (D D' : Nat → Int) (n : Nat) (h : ∀ j, j < n → D j = D' j) : cntN D n = cntN D' n := by
  induction n with
  | zero => rfl
  | succ n ih => simp only [cntN]; rw [ih fun j hj => h j (by omega), h n (by omega)]
theorem cntN_upd (D : Nat → Int) (t : Nat) (x : Int) (hx : 0 ≤ x) (n : Nat) (ht : t < n) (hd : D t < 0) : cntN (upd D t x) n + 1 = cntN D n := by
  induction n with
  | zero => omega
  | succ n ih =>
    simp only [cntN]
    by_cases q : t = n
    · subst q
      rw [cntN_congr (upd D t x) D t (fun j hj => upd_ne _ _ _ _ (by omega)), upd_same, if_neg (by omega), if_pos hd]
    · rw [upd_ne _ _ _ _ (fun e => q e.symm)]
      have := ih (by omega); omega
theorem cntN_all (n : Nat) (D : Nat → Int) (h : ∀ j, j < n → D j < 0) : cntN D n = n := by
  induction n with
  | zero => rfl
  | succ n ih => simp only [cntN]; rw [ih fun j hj => h j (by omega), if_pos (h n (by omega))]

/-- the search, with k nodes of the queue done -/
structure Bfs (rows : RowF) (N b : Nat) (D : Nat → Int) (q : List Nat) (k : Nat) : Prop where
  kle : k ≤ q.length
  cnt : q.length + cntN D N = N
  lt : ∀ i, i < q.length → q.getD i 0 < N
  dq : ∀ v, v < N → 0 ≤ D v → ∃ i, i < q.length ∧ q.getD i 0 = v
  qd : ∀ i, i < q.length → 0 ≤ D (q.getD i 0) ∧ D (q.getD i 0) ≤ i
  dm : ∀ v, v < N → -1 ≤ D v
  z : D b = 0
  zo : ∀ v, v < N → D v = 0 → v = b
  mono : ∀ i j, i ≤ j → j < q.length → D (q.getD i 0) ≤ D (q.getD j 0)
  top : ∀ i, i < q.length → k < q.length → D (q.getD i 0) ≤ D (q.getD k 0) + 1
  par : ∀ v, v < N → 0 < D v → ∃ u k, u < N ∧ D u = D v - 1 ∧ ((v : Int), k) ∈ rows u
  done : ∀ i, i < k → ∀ p ∈ rows (q.getD i 0), 0 ≤ D p.1.toNat ∧ D p.1.toNat ≤ D (q.getD i 0) + 1
theorem Bfs.start (rows : RowF) (N b : Nat) (hb : b < N) : Bfs rows N b (upd (fun _ => -1) b 0) [b] 0 := by
  have e : ∀ v, v ≠ b → upd (fun _ => (-1 : Int)) b 0 v = -1 := fun v h => upd_ne _ _ _ _ h
  have eb : upd (fun _ => (-1 : Int)) b 0 b = 0 := upd_same _ _ _
  have g : ∀ i, i < [b].length → [b].getD i 0 = b := fun i hi => by
    have : i = 0 := by simp at hi; omega
    subst this; rfl
  have key : ∀ v, upd (fun _ => (-1 : Int)) b 0 v = -1 ∨ v = b := fun v => by
    by_cases q : v = b
    · exact .inr q
    · exact .inl (e v q)
  refine ⟨Nat.zero_le _, ?_, fun i hi => by rw [g i hi]; exact hb, fun v hv h => ⟨0, by simp, ?_⟩, fun i hi => by rw [g i hi, eb]; omega, fun v _ => ?_, eb, fun v _ h => ?_, fun i j hij hj => by rw [g i (by omega), g j hj]; exact Int.le_refl _,
    fun i hi _ => by rw [g i hi, g 0 (by simp), eb]; omega, fun v _ h => ?_, fun i hi => by omega⟩
  · have := cntN_upd (fun _ => (-1 : Int)) b 0 (by omega) N hb (by omega)
    rw [cntN_all N (fun _ => -1) (fun _ _ => by omega)] at this
    simp; omega
  · rcases key v with q | q
    · omega
    · rw [q]; rfl
  · rcases key v with q | q
    · omega
    · rw [q, eb]; omega
  · rcases key v with q | q
    · omega
    · exact q
  · rcases key v with q | q
    · omega
    · rw [q, eb] at h; omega
theorem getD_app (q : List Nat) (t i : Nat) : (q ++ [t]).getD i 0 = if i < q.length then q.getD i 0 else if i = q.length then t else 0 := by
  rw [List.getD_eq_getElem?_getD, List.getElem?_append]
  by_cases h : i < q.length
  · rw [if_pos h, if_pos h, List.getD_eq_getElem?_getD]
  · rw [if_neg h, if_neg h]
    by_cases h2 : i = q.length
    · rw [if_pos h2, h2, Nat.sub_self]; rfl
    · rw [if_neg h2]
      have : ([t] : List Nat)[i - q.length]? = none := by simp; omega
      rw [this]; rfl
/-- a neighbour that is new -/
theorem Bfs.find {rows : RowF} {N b : Nat} {D : Nat → Int} {q : List Nat} {k : Nat} (s : Bfs rows N b D q k) (hk : k < q.length) {t : Nat} (ht : t < N) (hn : D t < 0) (hr : ∃ x, ((t : Int), x) ∈ rows (q.getD k 0)) :
    Bfs rows N b (upd D t (D (q.getD k 0) + 1)) (q ++ [t]) k := by
  have hu := s.qd k hk
  have hq : ∀ i, i < q.length → q.getD i 0 ≠ t := fun i hi e => by have := (s.qd i hi).1; rw [e] at this; omega
  have g1 : ∀ i, i < q.length → (q ++ [t]).getD i 0 = q.getD i 0 := fun i hi => by rw [getD_app, if_pos hi]
  have g2 : (q ++ [t]).getD q.length 0 = t := by rw [getD_app, if_neg (by omega), if_pos rfl]
  have d1 : ∀ i, i < q.length → upd D t (D (q.getD k 0) + 1) (q.getD i 0) = D (q.getD i 0) := fun i hi => upd_ne _ _ _ _ (hq i hi)
  have hl : (q ++ [t]).length = q.length + 1 := by simp
  have hcn := cntN_upd D t (D (q.getD k 0) + 1) (by omega) N ht hn
  have hbt : b ≠ t := fun e => by rw [← e, s.z] at hn; omega
  have old : ∀ i, i < (q ++ [t]).length → i < q.length ∨ i = q.length := fun i hi => by omega
  refine ⟨by omega, by have := s.cnt; omega, fun i hi => ?_, fun v hv h => ?_, fun i hi => ?_, fun v hv => ?_, by rw [upd_ne _ _ _ _ hbt]; exact s.z, fun v hv h => ?_, fun i j hij hj => ?_, fun i hi _ => ?_, fun v hv h => ?_, fun i hi p hp => ?_⟩
  · rcases old i hi with h | h
    · rw [g1 i h]; exact s.lt i h
    · rw [h, g2]; exact ht
  · by_cases e : v = t
    · exact ⟨q.length, by omega, by rw [g2, e]⟩
    · rw [upd_ne _ _ _ _ e] at h
      obtain ⟨i, h1, h2⟩ := s.dq v hv h
      exact ⟨i, by omega, by rw [g1 i h1, h2]⟩
  · rcases old i hi with h | h
    · rw [g1 i h, d1 i h]; exact s.qd i h
    · rw [h, g2, upd_same]; omega
  · by_cases e : v = t
    · rw [e, upd_same]; omega
    · rw [upd_ne _ _ _ _ e]; exact s.dm v hv
  · by_cases e : v = t
    · rw [e, upd_same] at h; omega
    · rw [upd_ne _ _ _ _ e] at h; exact s.zo v hv h
  · rcases old j hj with hj' | hj'
    · rw [g1 j hj', g1 i (by omega), d1 j hj', d1 i (by omega)]; exact s.mono i j hij hj'
    · rw [hj', g2, upd_same]
      rcases old i (by omega) with hi' | hi'
      · rw [g1 i hi', d1 i hi']; exact s.top i hi' hk
      · rw [hi', g2, upd_same]; exact Int.le_refl _
  · rw [g1 k hk, d1 k hk]
    rcases old i hi with hi' | hi'
    · rw [g1 i hi', d1 i hi']; exact s.top i hi' hk
    · rw [hi', g2, upd_same]; exact Int.le_refl _
  · by_cases e : v = t
    · obtain ⟨x, hx⟩ := hr
      refine ⟨q.getD k 0, x, s.lt k hk, ?_, by rw [e]; exact hx⟩
      rw [e, upd_same, d1 k hk]; omega
    · rw [upd_ne _ _ _ _ e] at h ⊢
      obtain ⟨u, x, h1, h2, h3⟩ := s.par v hv h
      exact ⟨u, x, h1, by rw [upd_ne _ _ _ _ (fun e => by rw [e] at h2; omega)]; exact h2, h3⟩
  · rw [g1 i (by omega)] at hp ⊢
    rw [d1 i (by omega)]
    have := s.done i hi p hp
    by_cases e : p.1.toNat = t
    · rw [e] at this; omega
    · rw [upd_ne _ _ _ _ e]; exact this
/-- a neighbour that is known -/
theorem Bfs.known {rows : RowF} {N b : Nat} {D : Nat → Int} {q : List Nat} {k : Nat} (s : Bfs rows N b D q k) (hk : k < q.length) {t : Nat} (ht : t < N) (hn : 0 ≤ D t) : D t ≤ D (q.getD k 0) + 1 := by
  obtain ⟨i, h1, h2⟩ := s.dq t ht hn
  rw [← h2]; exact s.top i h1 hk
theorem Bfs.next {rows : RowF} {N b : Nat} {D : Nat → Int} {q : List Nat} {k : Nat} (s : Bfs rows N b D q k) (hk : k < q.length) (hd : ∀ p ∈ rows (q.getD k 0), 0 ≤ D p.1.toNat ∧ D p.1.toNat ≤ D (q.getD k 0) + 1) : Bfs rows N b D q (k + 1) :=
  ⟨hk, s.cnt, s.lt, s.dq, s.qd, s.dm, s.z, s.zo, s.mono, fun i hi h => by have := s.top i hi hk; have := s.mono k (k + 1) (by omega) h; omega, s.par, fun i hi p hp => by
    by_cases e : i = k
    · subst e; exact hd p hp
    · exact s.done i (by omega) p hp⟩
theorem Bfs.dist {rows : RowF} {N b : Nat} {D : Nat → Int} {q : List Nat} (ok : RowsOK rows N) (s : Bfs rows N b D q q.length) : DistOK rows N b D := by
  refine ⟨s.z, s.zo, fun v hv => ⟨s.dm v hv, ?_⟩, fun v hv h => ?_, fun u hu h p hp => ?_⟩
  · by_cases h : 0 ≤ D v
    · obtain ⟨i, h1, h2⟩ := s.dq v hv h
      have := (s.qd i h1).2; have := s.cnt; rw [h2] at *; omega
    · omega
  · obtain ⟨u, x, h1, h2, h3⟩ := s.par v hv h
    exact ⟨u, x, h1, h2, ok.sym u v x h1 hv h3⟩
  · obtain ⟨i, h1, h2⟩ := s.dq u hu h
    subst h2; exact s.done i h1 p hp
/-- there is a way on -/
theorem DistOK.hop {rows : RowF} {N b : Nat} {D : Nat → Int} (d : DistOK rows N b D) {a : Nat} (ha : a < N) (h : 0 < D a) : ∃ p, (rows a).find? (fun p => decide (D p.1.toNat = D a - 1)) = some p ∧ D p.1.toNat = D a - 1 ∧ p ∈ rows a := by
  obtain ⟨u, x, h1, h2, h3⟩ := d.par a ha h
  cases hf : (rows a).find? fun p => decide (D p.1.toNat = D a - 1) with
  | none =>
    have := List.find?_eq_none.1 hf _ h3
    simp at this; omega
  | some p => exact ⟨p, rfl, by simpa using List.find?_some hf, List.mem_of_find?_eq_some hf⟩
end Go.Proofs.Ytglhpnieiphahaa.D
