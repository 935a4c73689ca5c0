/- Rows of edges and their distances, in plain Lean. -/
import Derived.Test.YtglhpnieiphahaaEPe
set_option autoImplicit false
set_option linter.unusedSimpArgs false
set_option linter.unusedVariables false
set_option maxRecDepth 100000
namespace Go.Proofs.Ytglhpnieiphahaa.D
open Go

theorem mem_rowsUp (L R : Nat → Int) (N : Nat) : ∀ (k j : Nat) (p : Int × Int), p ∈ rowsUp L R N k j ↔ ∃ i, i < k ∧ vld L R N i ∧ p.2 = (i : Int) ∧ ((L i = j ∧ p.1 = R i) ∨ (R i = j ∧ p.1 = L i)) := by
  intro k
  induction k with
  | zero =>
    intro j p
    constructor
    · intro h; cases h
    · rintro ⟨i, hi, _⟩; omega
  | succ k ih =>
    intro j p
    simp only [rowsUp, List.mem_append, ih]
    constructor
    · rintro (⟨i, hi, h⟩ | h)
      · exact ⟨i, by omega, h⟩
      · by_cases q : vld L R N k
        · rw [if_pos q, List.mem_append] at h
          rcases h with h | h
          · by_cases q2 : L k = j
            · rw [if_pos q2] at h; simp at h; subst h; exact ⟨k, by omega, q, rfl, .inl ⟨q2, rfl⟩⟩
            · rw [if_neg q2] at h; cases h
          · by_cases q2 : R k = j
            · rw [if_pos q2] at h; simp at h; subst h; exact ⟨k, by omega, q, rfl, .inr ⟨q2, rfl⟩⟩
            · rw [if_neg q2] at h; cases h
        · rw [if_neg q] at h; cases h
    · rintro ⟨i, hi, q, e, h⟩
      by_cases ei : i = k
      · subst ei
        right
        rw [if_pos q, List.mem_append]
        obtain ⟨p1, p2⟩ := p
        simp only at e h
        subst e
        rcases h with ⟨h1, h2⟩ | ⟨h1, h2⟩
        · left; rw [if_pos h1]; simp [h2]
        · right; rw [if_pos h1]; simp [h2]
      · left; exact ⟨i, by omega, q, e, h⟩
theorem rowsUp_ok (L R : Nat → Int) (N k : Nat) (hk : k ≤ 1000) : RowsOK (rowsUp L R N k) N := by
  refine ⟨fun u hu p hp => ?_, fun u v x hu hv h => ?_, fun u hu => ?_⟩
  · obtain ⟨i, hi, q, e, h⟩ := (mem_rowsUp L R N k u p).1 hp
    obtain ⟨q1, q2, q3, q4⟩ := q
    rcases h with ⟨h1, h2⟩ | ⟨h1, h2⟩
    · exact ⟨by omega, by omega, by omega, by omega⟩
    · exact ⟨by omega, by omega, by omega, by omega⟩
  · obtain ⟨i, hi, q, e, h⟩ := (mem_rowsUp L R N k u _).1 h
    refine (mem_rowsUp L R N k v _).2 ⟨i, hi, q, e, ?_⟩
    simp only at h ⊢
    rcases h with ⟨h1, h2⟩ | ⟨h1, h2⟩
    · exact .inr ⟨h2.symm, h1.symm⟩
    · exact .inl ⟨h2.symm, h1.symm⟩
  · have := rowsUp_len L R N k u; omega
theorem pathD_len {rows : RowF} {N b : Nat} {D : Nat → Int} (ok : RowsOK rows N) (d : DistOK rows N b D) : ∀ (m a : Nat), a < N → D a = (m : Int) → (pathD rows D m a).length = m := by
  intro m
  induction m with
  | zero => intro a _ _; rfl
  | succ m ih =>
    intro a ha h
    obtain ⟨p, h1, h2, h3⟩ := d.hop ha (by omega)
    have hr := ok.rg a ha p h3
    simp only [pathD, h1, List.length_cons]
    rw [ih p.1.toNat (by omega) (by omega)]
/-- a walk of m edges from a -/
def Wk (rows : RowF) (N : Nat) : Nat → Nat → Nat → Prop
  | 0, a, b => a = b
  | m + 1, a, b => ∃ u x, u < N ∧ ((u : Int), x) ∈ rows a ∧ Wk rows N m u b
theorem Wk.app {rows : RowF} {N : Nat} : ∀ {m : Nat} {a b : Nat}, Wk rows N m a b → ∀ {k c : Nat}, Wk rows N k b c → Wk rows N (m + k) a c := by
  intro m
  induction m with
  | zero => intro a b h k c h2; rw [Nat.zero_add]; cases h; exact h2
  | succ m ih =>
    intro a b ⟨u, x, h1, h2, h3⟩ k c h4
    rw [Nat.succ_add]
    exact ⟨u, x, h1, h2, ih h3 h4⟩
theorem Wk.rev {rows : RowF} {N : Nat} (ok : RowsOK rows N) : ∀ {m : Nat} {a b : Nat}, a < N → Wk rows N m a b → Wk rows N m b a := by
  intro m
  induction m with
  | zero => intro a b _ h; exact Eq.symm h
  | succ m ih =>
    intro a b ha ⟨u, x, h1, h2, h3⟩
    have h4 := ih h1 h3
    have : Wk rows N 1 u a := ⟨a, x, ha, ok.sym a u x ha h1 h2, rfl⟩
    exact h4.app this
/-- the distance is a walk's length -/
theorem DistOK.walk {rows : RowF} {N b : Nat} {D : Nat → Int} (d : DistOK rows N b D) : ∀ (m a : Nat), a < N → D a = (m : Int) → Wk rows N m a b := by
  intro m
  induction m with
  | zero => intro a ha h; exact d.zo a ha (by omega)
  | succ m ih =>
    intro a ha h
    obtain ⟨u, x, h1, h2, h3⟩ := d.par a ha (by omega)
    exact ⟨u, x, h1, h3, ih u h1 (by omega)⟩
/-- and no walk is shorter -/
theorem DistOK.least {rows : RowF} {N b : Nat} {D : Nat → Int} (ok : RowsOK rows N) (d : DistOK rows N b D) : ∀ (m a : Nat), a < N → Wk rows N m a b → 0 ≤ D a ∧ D a ≤ m := by
  intro m
  induction m with
  | zero => intro a _ h; cases h; rw [d.z]; omega
  | succ m ih =>
    intro a ha ⟨u, x, h1, h2, h3⟩
    obtain ⟨h4, h5⟩ := ih u h1 h3
    have := d.nxt u h1 h4 ((a : Int), x) (ok.sym a u x ha h1 h2)
    simp only [Int.toNat_natCast] at this
    omega
/-- what ExplainShortest asks -/
theorem dist_tri {rows : RowF} {N b c : Nat} {D E : Nat → Int} (ok : RowsOK rows N) (d : DistOK rows N b D) (e : DistOK rows N c E) {a : Nat} (ha : a < N) (hb : b < N) (h1 : 0 ≤ D a) (h2 : 0 ≤ E b) : 0 ≤ E a ∧ E a ≤ D a + E b := by
  have w1 := d.walk (D a).toNat a ha (by omega)
  have w2 := e.walk (E b).toNat b hb (by omega)
  have := e.least ok _ a ha (w1.app w2)
  omega
theorem dist_sym {rows : RowF} {N a b : Nat} {D E : Nat → Int} (ok : RowsOK rows N) (d : DistOK rows N b D) (e : DistOK rows N a E) (ha : a < N) (hb : b < N) : (0 ≤ D a ↔ 0 ≤ E b) ∧ (0 ≤ D a → D a = E b) := by
  have k1 : 0 ≤ D a → 0 ≤ E b ∧ E b ≤ D a := fun h => by
    have w := (d.walk (D a).toNat a ha (by omega)).rev ok ha
    have := e.least ok _ b hb w
    omega
  have k2 : 0 ≤ E b → 0 ≤ D a ∧ D a ≤ E b := fun h => by
    have w := (e.walk (E b).toNat b hb (by omega)).rev ok hb
    have := d.least ok _ a ha w
    omega
  exact ⟨⟨fun h => (k1 h).1, fun h => (k2 h).1⟩, fun h => by have := k1 h; have := k2 this.1; omega⟩
theorem dist_edge {rows : RowF} {N b : Nat} {D : Nat → Int} (ok : RowsOK rows N) (d : DistOK rows N b D) {a : Nat} (ha : a < N) (hb : b < N) {x : Int} (h : ((b : Int), x) ∈ rows a) : 0 ≤ D a ∧ D a ≤ 1 := by
  have := d.least ok 1 a ha ⟨b, x, hb, h, rfl⟩
  omega
theorem rowsUp_edge (L R : Nat → Int) (N k i : Nat) (hi : i < k) (h : vld L R N i) : ((R i), (i : Int)) ∈ rowsUp L R N k (L i).toNat :=
  (mem_rowsUp L R N k _ _).2 ⟨i, hi, h, rfl, .inl ⟨by have := h.1; omega, rfl⟩⟩
end Go.Proofs.Ytglhpnieiphahaa.D
