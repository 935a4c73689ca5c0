/- The engine's frames and statements: variables, regions in the order of the text, and what an operation does to a run (Oper.wp). -/
import Derived.Test.YtglhpnieiphahaaEX
set_option autoImplicit false
set_option linter.unusedSimpArgs false
set_option linter.unusedVariables false
namespace Go.Proofs.Ytglhpnieiphahaa.D
open Go
noncomputable section

/-! variables -/
inductive E8 : Type
  | lf (a b c d e f g h : V)
  | nd (a b c d e f g h : E8)
structure S8 where run : E8 → E8 → E8
structure G8 where run : E8 → V
structure P8 where run : V → E8 → E8
def sel8 {α : Type} (k : Nat) (a b c d e f g h : α) : α := Nat.rec (motive := fun _ => α) a (fun k _ => Nat.rec (motive := fun _ => α) b (fun k _ => Nat.rec (motive := fun _ => α) c (fun k _ => Nat.rec (motive := fun _ => α) d (fun k _ => Nat.rec (motive := fun _ => α) e (fun k _ => Nat.rec (motive := fun _ => α) f (fun k _ => Nat.rec (motive := fun _ => α) g (fun k _ => h) k) k) k) k) k) k) k
def e0 : E8 := .lf .junk .junk .junk .junk .junk .junk .junk .junk
def chF (k : Nat) (x : E8) : E8 := sel8 k
  (E8.rec (motive := fun _ => E8) (fun _ _ _ _ _ _ _ _ => e0) (fun a _ _ _ _ _ _ _ _ _ _ _ _ _ _ _ => a) x)
  (E8.rec (motive := fun _ => E8) (fun _ _ _ _ _ _ _ _ => e0) (fun _ b _ _ _ _ _ _ _ _ _ _ _ _ _ _ => b) x)
  (E8.rec (motive := fun _ => E8) (fun _ _ _ _ _ _ _ _ => e0) (fun _ _ c _ _ _ _ _ _ _ _ _ _ _ _ _ => c) x)
  (E8.rec (motive := fun _ => E8) (fun _ _ _ _ _ _ _ _ => e0) (fun _ _ _ d _ _ _ _ _ _ _ _ _ _ _ _ => d) x)
  (E8.rec (motive := fun _ => E8) (fun _ _ _ _ _ _ _ _ => e0) (fun _ _ _ _ e _ _ _ _ _ _ _ _ _ _ _ => e) x)
  (E8.rec (motive := fun _ => E8) (fun _ _ _ _ _ _ _ _ => e0) (fun _ _ _ _ _ f _ _ _ _ _ _ _ _ _ _ => f) x)
  (E8.rec (motive := fun _ => E8) (fun _ _ _ _ _ _ _ _ => e0) (fun _ _ _ _ _ _ g _ _ _ _ _ _ _ _ _ => g) x)
  (E8.rec (motive := fun _ => E8) (fun _ _ _ _ _ _ _ _ => e0) (fun _ _ _ _ _ _ _ h _ _ _ _ _ _ _ _ => h) x)
def lfF (k : Nat) (x : E8) : V := sel8 k
  (E8.rec (motive := fun _ => V) (fun a _ _ _ _ _ _ _ => a) (fun _ _ _ _ _ _ _ _ _ _ _ _ _ _ _ _ => .junk) x)
  (E8.rec (motive := fun _ => V) (fun _ b _ _ _ _ _ _ => b) (fun _ _ _ _ _ _ _ _ _ _ _ _ _ _ _ _ => .junk) x)
  (E8.rec (motive := fun _ => V) (fun _ _ c _ _ _ _ _ => c) (fun _ _ _ _ _ _ _ _ _ _ _ _ _ _ _ _ => .junk) x)
  (E8.rec (motive := fun _ => V) (fun _ _ _ d _ _ _ _ => d) (fun _ _ _ _ _ _ _ _ _ _ _ _ _ _ _ _ => .junk) x)
  (E8.rec (motive := fun _ => V) (fun _ _ _ _ e _ _ _ => e) (fun _ _ _ _ _ _ _ _ _ _ _ _ _ _ _ _ => .junk) x)
  (E8.rec (motive := fun _ => V) (fun _ _ _ _ _ f _ _ => f) (fun _ _ _ _ _ _ _ _ _ _ _ _ _ _ _ _ => .junk) x)
  (E8.rec (motive := fun _ => V) (fun _ _ _ _ _ _ g _ => g) (fun _ _ _ _ _ _ _ _ _ _ _ _ _ _ _ _ => .junk) x)
  (E8.rec (motive := fun _ => V) (fun _ _ _ _ _ _ _ h => h) (fun _ _ _ _ _ _ _ _ _ _ _ _ _ _ _ _ => .junk) x)
def scC (k : Nat) : S8 := sel8 k
  ⟨fun y x => E8.rec (motive := fun _ => E8) (fun _ _ _ _ _ _ _ _ => .nd y e0 e0 e0 e0 e0 e0 e0) (fun _ b c d e f g h _ _ _ _ _ _ _ _ => .nd y b c d e f g h) x⟩
  ⟨fun y x => E8.rec (motive := fun _ => E8) (fun _ _ _ _ _ _ _ _ => .nd e0 y e0 e0 e0 e0 e0 e0) (fun a _ c d e f g h _ _ _ _ _ _ _ _ => .nd a y c d e f g h) x⟩
  ⟨fun y x => E8.rec (motive := fun _ => E8) (fun _ _ _ _ _ _ _ _ => .nd e0 e0 y e0 e0 e0 e0 e0) (fun a b _ d e f g h _ _ _ _ _ _ _ _ => .nd a b y d e f g h) x⟩
  ⟨fun y x => E8.rec (motive := fun _ => E8) (fun _ _ _ _ _ _ _ _ => .nd e0 e0 e0 y e0 e0 e0 e0) (fun a b c _ e f g h _ _ _ _ _ _ _ _ => .nd a b c y e f g h) x⟩
  ⟨fun y x => E8.rec (motive := fun _ => E8) (fun _ _ _ _ _ _ _ _ => .nd e0 e0 e0 e0 y e0 e0 e0) (fun a b c d _ f g h _ _ _ _ _ _ _ _ => .nd a b c d y f g h) x⟩
  ⟨fun y x => E8.rec (motive := fun _ => E8) (fun _ _ _ _ _ _ _ _ => .nd e0 e0 e0 e0 e0 y e0 e0) (fun a b c d e _ g h _ _ _ _ _ _ _ _ => .nd a b c d e y g h) x⟩
  ⟨fun y x => E8.rec (motive := fun _ => E8) (fun _ _ _ _ _ _ _ _ => .nd e0 e0 e0 e0 e0 e0 y e0) (fun a b c d e f _ h _ _ _ _ _ _ _ _ => .nd a b c d e f y h) x⟩
  ⟨fun y x => E8.rec (motive := fun _ => E8) (fun _ _ _ _ _ _ _ _ => .nd e0 e0 e0 e0 e0 e0 e0 y) (fun a b c d e f g _ _ _ _ _ _ _ _ _ => .nd a b c d e f g y) x⟩
theorem lt8 {k : Nat} (h : k < 8) : k = 0 ∨ k = 1 ∨ k = 2 ∨ k = 3 ∨ k = 4 ∨ k = 5 ∨ k = 6 ∨ k = 7 := by omega
theorem ch_sc (i j : Nat) (hi : i < 8) (hj : j < 8) (y x : E8) : chF j ((scC i).run y x) = if i = j then y else chF j x := by
  rcases lt8 hi with rfl | rfl | rfl | rfl | rfl | rfl | rfl | rfl <;> rcases lt8 hj with rfl | rfl | rfl | rfl | rfl | rfl | rfl | rfl <;> cases x <;> rfl
/-- the variable at place i of n + 1 levels -/
def eg : Nat → Nat → G8
  | 0, i => sel8 i
    ⟨fun x => E8.rec (motive := fun _ => V) (fun a _ _ _ _ _ _ _ => a) (fun _ _ _ _ _ _ _ _ _ _ _ _ _ _ _ _ => .junk) x⟩
    ⟨fun x => E8.rec (motive := fun _ => V) (fun _ b _ _ _ _ _ _ => b) (fun _ _ _ _ _ _ _ _ _ _ _ _ _ _ _ _ => .junk) x⟩
    ⟨fun x => E8.rec (motive := fun _ => V) (fun _ _ c _ _ _ _ _ => c) (fun _ _ _ _ _ _ _ _ _ _ _ _ _ _ _ _ => .junk) x⟩
    ⟨fun x => E8.rec (motive := fun _ => V) (fun _ _ _ d _ _ _ _ => d) (fun _ _ _ _ _ _ _ _ _ _ _ _ _ _ _ _ => .junk) x⟩
    ⟨fun x => E8.rec (motive := fun _ => V) (fun _ _ _ _ e _ _ _ => e) (fun _ _ _ _ _ _ _ _ _ _ _ _ _ _ _ _ => .junk) x⟩
    ⟨fun x => E8.rec (motive := fun _ => V) (fun _ _ _ _ _ f _ _ => f) (fun _ _ _ _ _ _ _ _ _ _ _ _ _ _ _ _ => .junk) x⟩
    ⟨fun x => E8.rec (motive := fun _ => V) (fun _ _ _ _ _ _ g _ => g) (fun _ _ _ _ _ _ _ _ _ _ _ _ _ _ _ _ => .junk) x⟩
    ⟨fun x => E8.rec (motive := fun _ => V) (fun _ _ _ _ _ _ _ h => h) (fun _ _ _ _ _ _ _ _ _ _ _ _ _ _ _ _ => .junk) x⟩
  | n + 1, i => sel8 (i % 8)
    ⟨fun x => (eg n (i / 8)).run (E8.rec (motive := fun _ => E8) (fun _ _ _ _ _ _ _ _ => e0) (fun a _ _ _ _ _ _ _ _ _ _ _ _ _ _ _ => a) x)⟩
    ⟨fun x => (eg n (i / 8)).run (E8.rec (motive := fun _ => E8) (fun _ _ _ _ _ _ _ _ => e0) (fun _ b _ _ _ _ _ _ _ _ _ _ _ _ _ _ => b) x)⟩
    ⟨fun x => (eg n (i / 8)).run (E8.rec (motive := fun _ => E8) (fun _ _ _ _ _ _ _ _ => e0) (fun _ _ c _ _ _ _ _ _ _ _ _ _ _ _ _ => c) x)⟩
    ⟨fun x => (eg n (i / 8)).run (E8.rec (motive := fun _ => E8) (fun _ _ _ _ _ _ _ _ => e0) (fun _ _ _ d _ _ _ _ _ _ _ _ _ _ _ _ => d) x)⟩
    ⟨fun x => (eg n (i / 8)).run (E8.rec (motive := fun _ => E8) (fun _ _ _ _ _ _ _ _ => e0) (fun _ _ _ _ e _ _ _ _ _ _ _ _ _ _ _ => e) x)⟩
    ⟨fun x => (eg n (i / 8)).run (E8.rec (motive := fun _ => E8) (fun _ _ _ _ _ _ _ _ => e0) (fun _ _ _ _ _ f _ _ _ _ _ _ _ _ _ _ => f) x)⟩
    ⟨fun x => (eg n (i / 8)).run (E8.rec (motive := fun _ => E8) (fun _ _ _ _ _ _ _ _ => e0) (fun _ _ _ _ _ _ g _ _ _ _ _ _ _ _ _ => g) x)⟩
    ⟨fun x => (eg n (i / 8)).run (E8.rec (motive := fun _ => E8) (fun _ _ _ _ _ _ _ _ => e0) (fun _ _ _ _ _ _ _ h _ _ _ _ _ _ _ _ => h) x)⟩
theorem eg_zero (i : Nat) (hi : i < 8) (x : E8) : (eg 0 i).run x = lfF i x := by
  rcases lt8 hi with rfl | rfl | rfl | rfl | rfl | rfl | rfl | rfl <;> rfl
theorem eg_succ (n i : Nat) (x : E8) : (eg (n + 1) i).run x = (eg n (i / 8)).run (chF (i % 8) x) := by
  show (sel8 (i % 8) _ _ _ _ _ _ _ _ : G8).run x = (eg n (i / 8)).run (sel8 (i % 8) _ _ _ _ _ _ _ _)
  have hk : i % 8 < 8 := Nat.mod_lt _ (by omega)
  generalize i % 8 = k at hk ⊢
  generalize i / 8 = q
  rcases lt8 hk with rfl | rfl | rfl | rfl | rfl | rfl | rfl | rfl <;> rfl
def es : Nat → Nat → P8
  | 0, i => sel8 i
    ⟨fun y x => E8.rec (motive := fun _ => E8) (fun _ b c d e f g h => .lf y b c d e f g h) (fun _ _ _ _ _ _ _ _ _ _ _ _ _ _ _ _ => .lf y .junk .junk .junk .junk .junk .junk .junk) x⟩
    ⟨fun y x => E8.rec (motive := fun _ => E8) (fun a _ c d e f g h => .lf a y c d e f g h) (fun _ _ _ _ _ _ _ _ _ _ _ _ _ _ _ _ => .lf .junk y .junk .junk .junk .junk .junk .junk) x⟩
    ⟨fun y x => E8.rec (motive := fun _ => E8) (fun a b _ d e f g h => .lf a b y d e f g h) (fun _ _ _ _ _ _ _ _ _ _ _ _ _ _ _ _ => .lf .junk .junk y .junk .junk .junk .junk .junk) x⟩
    ⟨fun y x => E8.rec (motive := fun _ => E8) (fun a b c _ e f g h => .lf a b c y e f g h) (fun _ _ _ _ _ _ _ _ _ _ _ _ _ _ _ _ => .lf .junk .junk .junk y .junk .junk .junk .junk) x⟩
    ⟨fun y x => E8.rec (motive := fun _ => E8) (fun a b c d _ f g h => .lf a b c d y f g h) (fun _ _ _ _ _ _ _ _ _ _ _ _ _ _ _ _ => .lf .junk .junk .junk .junk y .junk .junk .junk) x⟩
    ⟨fun y x => E8.rec (motive := fun _ => E8) (fun a b c d e _ g h => .lf a b c d e y g h) (fun _ _ _ _ _ _ _ _ _ _ _ _ _ _ _ _ => .lf .junk .junk .junk .junk .junk y .junk .junk) x⟩
    ⟨fun y x => E8.rec (motive := fun _ => E8) (fun a b c d e f _ h => .lf a b c d e f y h) (fun _ _ _ _ _ _ _ _ _ _ _ _ _ _ _ _ => .lf .junk .junk .junk .junk .junk .junk y .junk) x⟩
    ⟨fun y x => E8.rec (motive := fun _ => E8) (fun a b c d e f g _ => .lf a b c d e f g y) (fun _ _ _ _ _ _ _ _ _ _ _ _ _ _ _ _ => .lf .junk .junk .junk .junk .junk .junk .junk y) x⟩
  | n + 1, i => ⟨fun v x => E8.rec (motive := fun _ => E8) (fun a b c d e f g h => (scC (i % 8)).run (.lf a b c d e f g h) x) (fun a b c d e f g h _ _ _ _ _ _ _ _ => (scC (i % 8)).run (.nd a b c d e f g h) x)
      ((es n (i / 8)).run v (chF (i % 8) x))⟩
theorem es_succ (n i : Nat) (v : V) (x : E8) : (es (n + 1) i).run v x = (scC (i % 8)).run ((es n (i / 8)).run v (chF (i % 8) x)) x := by
  show E8.rec (motive := fun _ => E8) _ _ ((es n (i / 8)).run v (chF (i % 8) x)) = _
  cases (es n (i / 8)).run v (chF (i % 8) x) <;> rfl
theorem eg_es (n : Nat) : ∀ (i j : Nat), i < 8 ^ (n + 1) → j < 8 ^ (n + 1) → ∀ (v : V) (x : E8), (eg n j).run ((es n i).run v x) = if i = j then v else (eg n j).run x := by
  induction n with
  | zero =>
    intro i j hi hj v x
    rw [eg_zero j (by omega), eg_zero j (by omega)]
    rcases lt8 (show i < 8 by omega) with rfl | rfl | rfl | rfl | rfl | rfl | rfl | rfl <;> rcases lt8 (show j < 8 by omega) with rfl | rfl | rfl | rfl | rfl | rfl | rfl | rfl <;> cases x <;> rfl
  | succ n ih =>
    intro i j hi hj v x
    rw [es_succ, eg_succ, eg_succ, ch_sc _ _ (Nat.mod_lt _ (by omega)) (Nat.mod_lt _ (by omega))]
    have hp : 8 ^ (n + 1 + 1) = 8 ^ (n + 1) * 8 := Nat.pow_succ 8 (n + 1)
    by_cases h : i % 8 = j % 8
    · rw [if_pos h, ih _ _ (by omega) (by omega), h]
      by_cases h2 : i / 8 = j / 8
      · rw [if_pos h2, if_pos (by omega)]
      · rw [if_neg h2, if_neg (by omega)]
    · rw [if_neg h, if_neg (by omega)]

/-- a region's variables -/
inductive Sk : Type
  | nil
  | cons (h : V) (t : Sk)
def skhd (s : Sk) : V := Sk.rec (motive := fun _ => V) V.junk (fun h _ _ => h) s
def sktl (s : Sk) : Sk := Sk.rec (motive := fun _ => Sk) Sk.nil (fun _ t _ => t) s
def sknth (s : Sk) (i : Nat) : V := Nat.rec (motive := fun _ => Sk → V) skhd (fun _ ih s => ih (sktl s)) i s
/-- a list's members -/
def skOf (l : V) : Sk := (V.rec (motive := fun _ => Sk) (Sk.nil) (Sk.nil) (Sk.nil) (Sk.nil) (Sk.nil) (Sk.nil) (Sk.nil) (Sk.nil) (fun _ _ => Sk.nil) (fun _ _ _ => Sk.nil) (fun _ => Sk.nil) (fun _ => Sk.nil) (fun _ _ _ => Sk.nil) (fun _ _ => Sk.nil) (fun _ _ => Sk.nil) (fun h _ _ ih_t => Sk.cons h ih_t) (fun _ _ _ => Sk.nil) (fun _ _ _ _ _ _ => Sk.nil) (fun _ _ _ _ _ => Sk.nil) (fun _ => Sk.nil) (fun _ _ => Sk.nil)) l
theorem sknth_of (l : V) : ∀ i, sknth (skOf l) i = vnth l i := by
  induction l with
  | cons a t _ ih =>
    intro i
    cases i with
    | zero => rfl
    | succ i => exact ih i
  | _ =>
    intro i
    have : ∀ i, sknth .nil i = .junk := fun i => by
      induction i with
      | zero => rfl
      | succ i ih => exact ih
    exact this i
structure AC where run : Sk → E8 → V
def idxGo (t : Nat) (l : List Nat) : Nat → Option Nat := List.rec (motive := fun _ => Nat → Option Nat) (fun _ => none) (fun x _ ih j => Bool.rec (ih (Nat.succ j)) (some j) (Nat.beq x t)) l
def idxOf (t : Nat) (l : List Nat) : Option Nat := idxGo t l 0
theorem idxGo_add (t : Nat) (l : List Nat) : ∀ j, idxGo t l j = (idxGo t l 0).map (· + j) := by
  induction l with
  | nil => exact fun _ => rfl
  | cons x l ih =>
    intro j
    show Bool.rec (motive := fun _ => Option Nat) (idxGo t l (j + 1)) (some j) (Nat.beq x t) = (Bool.rec (motive := fun _ => Option Nat) (idxGo t l (0 + 1)) (some 0) (Nat.beq x t) : Option Nat).map (· + j)
    cases Nat.beq x t with
    | true => simp
    | false =>
      show idxGo t l (j + 1) = (idxGo t l (0 + 1)).map (· + j)
      rw [ih (j + 1), ih (0 + 1)]
      cases idxGo t l 0 with
      | none => rfl
      | some q => simp; omega
theorem idxOf_nil (t : Nat) : idxOf t [] = none := rfl
theorem idxOf_cons (t x : Nat) (xs : List Nat) : idxOf t (x :: xs) = if x = t then some 0 else (idxOf t xs).map (· + 1) := by
  show Bool.rec (motive := fun _ => Option Nat) (idxGo t xs (0 + 1)) (some 0) (Nat.beq x t) = _
  cases h : Nat.beq x t with
  | true => rw [if_pos (Nat.eq_of_beq_eq_true h)]
  | false => rw [if_neg (Nat.ne_of_beq_eq_false h)]; exact idxGo_add t xs 1
def vnthO : Nat → AC
  | 0 => ⟨fun s _ => skhd s⟩
  | n + 1 => ⟨fun s e => (vnthO n).run (sktl s) e⟩
theorem vnthO_eq (n : Nat) (s : Sk) (e : E8) : (vnthO n).run s e = sknth s n := by
  induction n generalizing s with
  | zero => rfl
  | succ n ih => show (vnthO n).run (sktl s) e = _; rw [ih]; rfl
def vnthC (n : Nat) : AC :=
  (Nat.rec (motive := fun _ => AC) ⟨fun s _ => Sk.rec (motive := fun _ => V) V.junk (fun h _ _ => h) s⟩ (fun n _ =>
    (Nat.rec (motive := fun _ => AC) ⟨fun s _ => Sk.rec (motive := fun _ => V) V.junk (fun h _ _ => h) (Sk.rec (motive := fun _ => Sk) Sk.nil (fun _ t _ => t) s)⟩ (fun n _ =>
    (Nat.rec (motive := fun _ => AC) ⟨fun s _ => Sk.rec (motive := fun _ => V) V.junk (fun h _ _ => h) (Sk.rec (motive := fun _ => Sk) Sk.nil (fun _ t _ => t) (Sk.rec (motive := fun _ => Sk) Sk.nil (fun _ t _ => t) s))⟩ (fun n _ =>
    (Nat.rec (motive := fun _ => AC) ⟨fun s _ => Sk.rec (motive := fun _ => V) V.junk (fun h _ _ => h) (Sk.rec (motive := fun _ => Sk) Sk.nil (fun _ t _ => t) (Sk.rec (motive := fun _ => Sk) Sk.nil (fun _ t _ => t) (Sk.rec (motive := fun _ => Sk) Sk.nil (fun _ t _ => t) s)))⟩ (fun n _ =>
    (Nat.rec (motive := fun _ => AC) ⟨fun s _ => Sk.rec (motive := fun _ => V) V.junk (fun h _ _ => h) (Sk.rec (motive := fun _ => Sk) Sk.nil (fun _ t _ => t) (Sk.rec (motive := fun _ => Sk) Sk.nil (fun _ t _ => t) (Sk.rec (motive := fun _ => Sk) Sk.nil (fun _ t _ => t) (Sk.rec (motive := fun _ => Sk) Sk.nil (fun _ t _ => t) s))))⟩ (fun n _ =>
    (Nat.rec (motive := fun _ => AC) ⟨fun s _ => Sk.rec (motive := fun _ => V) V.junk (fun h _ _ => h) (Sk.rec (motive := fun _ => Sk) Sk.nil (fun _ t _ => t) (Sk.rec (motive := fun _ => Sk) Sk.nil (fun _ t _ => t) (Sk.rec (motive := fun _ => Sk) Sk.nil (fun _ t _ => t) (Sk.rec (motive := fun _ => Sk) Sk.nil (fun _ t _ => t) (Sk.rec (motive := fun _ => Sk) Sk.nil (fun _ t _ => t) s)))))⟩ (fun n _ =>
    (Nat.rec (motive := fun _ => AC) ⟨fun s _ => Sk.rec (motive := fun _ => V) V.junk (fun h _ _ => h) (Sk.rec (motive := fun _ => Sk) Sk.nil (fun _ t _ => t) (Sk.rec (motive := fun _ => Sk) Sk.nil (fun _ t _ => t) (Sk.rec (motive := fun _ => Sk) Sk.nil (fun _ t _ => t) (Sk.rec (motive := fun _ => Sk) Sk.nil (fun _ t _ => t) (Sk.rec (motive := fun _ => Sk) Sk.nil (fun _ t _ => t) (Sk.rec (motive := fun _ => Sk) Sk.nil (fun _ t _ => t) s))))))⟩ (fun n _ =>
    (Nat.rec (motive := fun _ => AC) ⟨fun s _ => Sk.rec (motive := fun _ => V) V.junk (fun h _ _ => h) (Sk.rec (motive := fun _ => Sk) Sk.nil (fun _ t _ => t) (Sk.rec (motive := fun _ => Sk) Sk.nil (fun _ t _ => t) (Sk.rec (motive := fun _ => Sk) Sk.nil (fun _ t _ => t) (Sk.rec (motive := fun _ => Sk) Sk.nil (fun _ t _ => t) (Sk.rec (motive := fun _ => Sk) Sk.nil (fun _ t _ => t) (Sk.rec (motive := fun _ => Sk) Sk.nil (fun _ t _ => t) (Sk.rec (motive := fun _ => Sk) Sk.nil (fun _ t _ => t) s)))))))⟩ (fun n _ =>
    (Nat.rec (motive := fun _ => AC) ⟨fun s _ => Sk.rec (motive := fun _ => V) V.junk (fun h _ _ => h) (Sk.rec (motive := fun _ => Sk) Sk.nil (fun _ t _ => t) (Sk.rec (motive := fun _ => Sk) Sk.nil (fun _ t _ => t) (Sk.rec (motive := fun _ => Sk) Sk.nil (fun _ t _ => t) (Sk.rec (motive := fun _ => Sk) Sk.nil (fun _ t _ => t) (Sk.rec (motive := fun _ => Sk) Sk.nil (fun _ t _ => t) (Sk.rec (motive := fun _ => Sk) Sk.nil (fun _ t _ => t) (Sk.rec (motive := fun _ => Sk) Sk.nil (fun _ t _ => t) (Sk.rec (motive := fun _ => Sk) Sk.nil (fun _ t _ => t) s))))))))⟩ (fun n _ =>
    (Nat.rec (motive := fun _ => AC) ⟨fun s _ => Sk.rec (motive := fun _ => V) V.junk (fun h _ _ => h) (Sk.rec (motive := fun _ => Sk) Sk.nil (fun _ t _ => t) (Sk.rec (motive := fun _ => Sk) Sk.nil (fun _ t _ => t) (Sk.rec (motive := fun _ => Sk) Sk.nil (fun _ t _ => t) (Sk.rec (motive := fun _ => Sk) Sk.nil (fun _ t _ => t) (Sk.rec (motive := fun _ => Sk) Sk.nil (fun _ t _ => t) (Sk.rec (motive := fun _ => Sk) Sk.nil (fun _ t _ => t) (Sk.rec (motive := fun _ => Sk) Sk.nil (fun _ t _ => t) (Sk.rec (motive := fun _ => Sk) Sk.nil (fun _ t _ => t) (Sk.rec (motive := fun _ => Sk) Sk.nil (fun _ t _ => t) s)))))))))⟩ (fun n _ =>
    (Nat.rec (motive := fun _ => AC) ⟨fun s _ => Sk.rec (motive := fun _ => V) V.junk (fun h _ _ => h) (Sk.rec (motive := fun _ => Sk) Sk.nil (fun _ t _ => t) (Sk.rec (motive := fun _ => Sk) Sk.nil (fun _ t _ => t) (Sk.rec (motive := fun _ => Sk) Sk.nil (fun _ t _ => t) (Sk.rec (motive := fun _ => Sk) Sk.nil (fun _ t _ => t) (Sk.rec (motive := fun _ => Sk) Sk.nil (fun _ t _ => t) (Sk.rec (motive := fun _ => Sk) Sk.nil (fun _ t _ => t) (Sk.rec (motive := fun _ => Sk) Sk.nil (fun _ t _ => t) (Sk.rec (motive := fun _ => Sk) Sk.nil (fun _ t _ => t) (Sk.rec (motive := fun _ => Sk) Sk.nil (fun _ t _ => t) (Sk.rec (motive := fun _ => Sk) Sk.nil (fun _ t _ => t) s))))))))))⟩ (fun n _ =>
    (Nat.rec (motive := fun _ => AC) ⟨fun s _ => Sk.rec (motive := fun _ => V) V.junk (fun h _ _ => h) (Sk.rec (motive := fun _ => Sk) Sk.nil (fun _ t _ => t) (Sk.rec (motive := fun _ => Sk) Sk.nil (fun _ t _ => t) (Sk.rec (motive := fun _ => Sk) Sk.nil (fun _ t _ => t) (Sk.rec (motive := fun _ => Sk) Sk.nil (fun _ t _ => t) (Sk.rec (motive := fun _ => Sk) Sk.nil (fun _ t _ => t) (Sk.rec (motive := fun _ => Sk) Sk.nil (fun _ t _ => t) (Sk.rec (motive := fun _ => Sk) Sk.nil (fun _ t _ => t) (Sk.rec (motive := fun _ => Sk) Sk.nil (fun _ t _ => t) (Sk.rec (motive := fun _ => Sk) Sk.nil (fun _ t _ => t) (Sk.rec (motive := fun _ => Sk) Sk.nil (fun _ t _ => t) (Sk.rec (motive := fun _ => Sk) Sk.nil (fun _ t _ => t) s)))))))))))⟩ (fun n _ => ⟨fun s e => (vnthO n).run (Sk.rec (motive := fun _ => Sk) Sk.nil (fun _ t _ => t) (Sk.rec (motive := fun _ => Sk) Sk.nil (fun _ t _ => t) (Sk.rec (motive := fun _ => Sk) Sk.nil (fun _ t _ => t) (Sk.rec (motive := fun _ => Sk) Sk.nil (fun _ t _ => t) (Sk.rec (motive := fun _ => Sk) Sk.nil (fun _ t _ => t) (Sk.rec (motive := fun _ => Sk) Sk.nil (fun _ t _ => t) (Sk.rec (motive := fun _ => Sk) Sk.nil (fun _ t _ => t) (Sk.rec (motive := fun _ => Sk) Sk.nil (fun _ t _ => t) (Sk.rec (motive := fun _ => Sk) Sk.nil (fun _ t _ => t) (Sk.rec (motive := fun _ => Sk) Sk.nil (fun _ t _ => t) (Sk.rec (motive := fun _ => Sk) Sk.nil (fun _ t _ => t) (Sk.rec (motive := fun _ => Sk) Sk.nil (fun _ t _ => t) s)))))))))))) e⟩) n)) n)) n)) n)) n)) n)) n)) n)) n)) n)) n)) n)
theorem vnthC_eq (n : Nat) (s : Sk) (e : E8) : (vnthC n).run s e = sknth s n := by
  cases n with
  | zero => rfl
  | succ n =>
  cases n with
  | zero => rfl
  | succ n =>
  cases n with
  | zero => rfl
  | succ n =>
  cases n with
  | zero => rfl
  | succ n =>
  cases n with
  | zero => rfl
  | succ n =>
  cases n with
  | zero => rfl
  | succ n =>
  cases n with
  | zero => rfl
  | succ n =>
  cases n with
  | zero => rfl
  | succ n =>
  cases n with
  | zero => rfl
  | succ n =>
  cases n with
  | zero => rfl
  | succ n =>
  cases n with
  | zero => rfl
  | succ n =>
  cases n with
  | zero => rfl
  | succ n =>
  exact vnthO_eq n _ e
/-- a constant -/
def constC (v : V) : AC := (V.rec (motive := fun _ => AC) (⟨fun _ _ => v⟩) (⟨fun _ _ => v⟩) (⟨fun _ _ => .nilp⟩) (⟨fun _ _ => .nils⟩) (⟨fun _ _ => .nilf⟩) (⟨fun _ _ => .nilm⟩) (⟨fun _ _ => .nili⟩) (⟨fun _ _ => v⟩) (fun _ _ => ⟨fun _ _ => v⟩) (fun _ _ _ => ⟨fun _ _ => v⟩) (fun _ => ⟨fun _ _ => v⟩) (fun _ => ⟨fun _ _ => v⟩) (fun _ _ _ => ⟨fun _ _ => v⟩) (fun _ _ => ⟨fun _ _ => v⟩) (fun len code => ⟨fun _ _ => .str len code⟩) (fun _ _ _ _ => ⟨fun _ _ => v⟩) (fun _ _ _ => ⟨fun _ _ => v⟩) (fun _ _ _ _ _ _ => ⟨fun _ _ => v⟩) (fun _ _ _ _ _ => ⟨fun _ _ => v⟩) (fun b => ⟨fun _ _ => .bool b⟩) (fun k n => ⟨fun _ _ => .int k n⟩)) v
theorem constC_run (v : V) (s : Sk) (e : E8) : (constC v).run s e = v := by cases v <;> rfl
/-! the kept variables: a table of places, eight bits a variable (the place and one; 0: not kept) -/
def dig (keep t : Nat) : Nat := Nat.land (Nat.shiftRight keep (Nat.mul 8 t)) 255
def kpos (keep t : Nat) : Option Nat := Nat.rec (motive := fun _ => Option Nat) none (fun j _ => some j) (dig keep t)
def packK : List Nat → Nat → Nat
  | [], _ => 0
  | t :: ts, j => Nat.lor (Nat.shiftLeft (Nat.succ j) (Nat.mul 8 t)) (packK ts (Nat.succ j))
def sortedB : List Nat → Bool
  | a :: b :: l => Nat.blt a b && sortedB (b :: l)
  | _ => true
def KOK (d keep : Nat) : Prop := ∀ t t' j, kpos keep t = some j → kpos keep t' = some j → t = t' ∧ j < 8 ^ (d + 1)
theorem dig_zero (t : Nat) : dig 0 t = 0 := by
  show (0 >>> (8 * t)) &&& 255 = 0
  simp
theorem dig_lor (a b t : Nat) : dig (Nat.lor a b) t = Nat.lor (dig a t) (dig b t) := by
  show ((a ||| b) >>> (8 * t)) &&& 255 = (a >>> (8 * t) &&& 255) ||| (b >>> (8 * t) &&& 255)
  rw [Nat.shiftRight_or_distrib, Nat.and_or_distrib_right]
theorem dig_shift (x t0 t : Nat) (hx : x < 256) : dig (Nat.shiftLeft x (Nat.mul 8 t0)) t = if t = t0 then x else 0 := by
  show ((x <<< (8 * t0)) >>> (8 * t)) &&& 255 = _
  rw [show (255 : Nat) = 2 ^ 8 - 1 from rfl, Nat.and_two_pow_sub_one_eq_mod, Nat.shiftLeft_eq, Nat.shiftRight_eq_div_pow]
  by_cases h : t = t0
  · subst h
    rw [if_pos rfl, Nat.mul_div_cancel _ (Nat.two_pow_pos _)]
    exact Nat.mod_eq_of_lt hx
  · rw [if_neg h]
    rcases Nat.lt_or_gt_of_ne h with q | q
    · obtain ⟨k, hk⟩ : ∃ k, 8 * t0 = 8 * t + (8 + k) := ⟨8 * t0 - 8 * t - 8, by omega⟩
      rw [hk, Nat.pow_add, Nat.pow_add, ← Nat.mul_assoc, Nat.mul_comm x, Nat.mul_assoc, Nat.mul_div_cancel_left _ (Nat.two_pow_pos _), ← Nat.mul_assoc, Nat.mul_comm x, Nat.mul_assoc]
      exact Nat.mul_mod_right _ _
    · obtain ⟨k, hk⟩ : ∃ k, 8 * t = 8 * t0 + (8 + k) := ⟨8 * t - 8 * t0 - 8, by omega⟩
      rw [hk, Nat.pow_add, ← Nat.div_div_eq_div_mul, Nat.mul_div_cancel _ (Nat.two_pow_pos _), Nat.div_eq_of_lt]
      rw [Nat.pow_add]
      exact Nat.lt_of_lt_of_le hx (Nat.le_mul_of_pos_right _ (Nat.two_pow_pos _))
theorem dig_not (ks : List Nat) (t : Nat) (h : t ∉ ks) : ∀ j, j + ks.length ≤ 255 → dig (packK ks j) t = 0 := by
  induction ks with
  | nil => exact fun _ _ => dig_zero t
  | cons a ks ih =>
    intro j hj
    simp only [List.length_cons] at hj
    show dig (Nat.lor _ (packK ks (j + 1))) t = 0
    rw [dig_lor, dig_shift _ _ _ (by omega), if_neg (fun q => h (by simp [q])), ih (fun q => h (by simp [q])) (j + 1) (by omega)]
    rfl
theorem sortedB_lt (ks : List Nat) : ∀ a, sortedB (a :: ks) = true → ∀ b ∈ ks, a < b := by
  induction ks with
  | nil => intro a _ b hb; cases hb
  | cons c ks ih =>
    intro a h b hb
    simp only [sortedB, Bool.and_eq_true] at h
    have h1 : a < c := by simpa using h.1
    rcases List.mem_cons.1 hb with rfl | hb
    · exact h1
    · exact Nat.lt_trans h1 (ih c h.2 b hb)
theorem sortedB_tail {a : Nat} {ks : List Nat} (h : sortedB (a :: ks) = true) : sortedB ks = true := by
  cases ks with
  | nil => rfl
  | cons b ks => simp only [sortedB, Bool.and_eq_true] at h; exact h.2
theorem kpos_pack (ks : List Nat) : ∀ (j : Nat), j + ks.length ≤ 255 → sortedB ks = true → ∀ t q, kpos (packK ks j) t = some q → ∃ i, i < ks.length ∧ ks[i]? = some t ∧ q = j + i := by
  induction ks with
  | nil =>
    intro j _ _ t q h
    have : kpos 0 t = some q := h
    unfold kpos at this
    rw [dig_zero] at this; cases this
  | cons a ks ih =>
    intro j hj hs t q h
    simp only [List.length_cons] at hj
    have e : dig (packK (a :: ks) j) t = Nat.lor (if t = a then j + 1 else 0) (dig (packK ks (j + 1)) t) := by
      show dig (Nat.lor _ (packK ks (j + 1))) t = _
      rw [dig_lor, dig_shift _ _ _ (by omega)]
    by_cases hta : t = a
    · subst hta
      have hn : t ∉ ks := fun hm => Nat.lt_irrefl _ (sortedB_lt ks t hs t hm)
      rw [if_pos rfl, dig_not ks t hn (j + 1) (by omega)] at e
      have e : dig (packK (t :: ks) j) t = j + 1 := by rw [e]; exact Nat.or_zero _
      unfold kpos at h
      rw [e] at h
      cases h
      exact ⟨0, by simp, rfl, rfl⟩
    · rw [if_neg hta] at e
      have e : dig (packK (a :: ks) j) t = dig (packK ks (j + 1)) t := by rw [e]; exact Nat.zero_or _
      have h2 : kpos (packK ks (j + 1)) t = some q := by unfold kpos at h ⊢; rw [← e]; exact h
      obtain ⟨i, h3, h4, h5⟩ := ih (j + 1) (by omega) (sortedB_tail hs) t q h2
      exact ⟨i + 1, by simp; omega, by simpa using h4, by omega⟩
theorem sorted_get (ks : List Nat) : sortedB ks = true → ∀ (i j t : Nat), ks[i]? = some t → ks[j]? = some t → i = j := by
  induction ks with
  | nil => intro _ i j t h; simp at h
  | cons a ks ih =>
    intro hs i j t h1 h2
    have lt := sortedB_lt ks a hs
    cases i with
    | zero => cases j with
      | zero => rfl
      | succ j =>
        simp only [List.getElem?_cons_zero, Option.some.injEq] at h1
        simp only [List.getElem?_cons_succ] at h2
        have := lt t (List.mem_of_getElem? h2); omega
    | succ i => cases j with
      | zero =>
        simp only [List.getElem?_cons_zero, Option.some.injEq] at h2
        simp only [List.getElem?_cons_succ] at h1
        have := lt t (List.mem_of_getElem? h1); omega
      | succ j => simp only [List.getElem?_cons_succ] at h1 h2; rw [ih (sortedB_tail hs) i j t h1 h2]
theorem KOK.pack {d : Nat} {ks : List Nat} (h1 : ks.length ≤ 255) (h2 : sortedB ks = true) (h3 : ks.length ≤ 8 ^ (d + 1)) : KOK d (packK ks 0) := by
  intro t t' j e e'
  obtain ⟨i, a1, a2, a3⟩ := kpos_pack ks 0 (by omega) h2 t j e
  obtain ⟨i', b1, b2, b3⟩ := kpos_pack ks 0 (by omega) h2 t' j e'
  obtain rfl : i = i' := by omega
  rw [a2] at b2; cases b2
  exact ⟨rfl, by omega⟩
def accT (d keep : Nat) (ns : List Nat) (t : Nat) : AC :=
  match idxOf t ns with
  | some i => vnthC i
  | none => match kpos keep t with
    | some j => ⟨fun _ e => (eg d j).run e⟩
    | none => ⟨fun _ _ => .junk⟩
def accO (d keep : Nat) (ns : List Nat) (x : Operand) : AC :=
  match x with
  | .tmp t => accT d keep ns t
  | .const v => constC (ofVal v)
  | .global _ => ⟨fun _ _ => .junk⟩
  | .func f => ⟨fun _ _ => .fn f .nil⟩
/-! the same, handed on -/
structure AK (α : Type) where run : Sk → E8 → (V → α) → α
def skK (α : Type) (i : Nat) : AK α :=
  (fun n => (Nat.rec (motive := fun _ => AK α) ⟨fun s _ k => Sk.rec (motive := fun _ => α) (k V.junk) (fun h _ _ => k h) s⟩ (fun n _ =>
    (Nat.rec (motive := fun _ => AK α) ⟨fun s _ k => Sk.rec (motive := fun _ => α) (k V.junk) (fun h _ _ => k h) (Sk.rec (motive := fun _ => Sk) Sk.nil (fun _ t _ => t) s)⟩ (fun n _ =>
    (Nat.rec (motive := fun _ => AK α) ⟨fun s _ k => Sk.rec (motive := fun _ => α) (k V.junk) (fun h _ _ => k h) (Sk.rec (motive := fun _ => Sk) Sk.nil (fun _ t _ => t) (Sk.rec (motive := fun _ => Sk) Sk.nil (fun _ t _ => t) s))⟩ (fun n _ =>
    (Nat.rec (motive := fun _ => AK α) ⟨fun s _ k => Sk.rec (motive := fun _ => α) (k V.junk) (fun h _ _ => k h) (Sk.rec (motive := fun _ => Sk) Sk.nil (fun _ t _ => t) (Sk.rec (motive := fun _ => Sk) Sk.nil (fun _ t _ => t) (Sk.rec (motive := fun _ => Sk) Sk.nil (fun _ t _ => t) s)))⟩ (fun n _ =>
    (Nat.rec (motive := fun _ => AK α) ⟨fun s _ k => Sk.rec (motive := fun _ => α) (k V.junk) (fun h _ _ => k h) (Sk.rec (motive := fun _ => Sk) Sk.nil (fun _ t _ => t) (Sk.rec (motive := fun _ => Sk) Sk.nil (fun _ t _ => t) (Sk.rec (motive := fun _ => Sk) Sk.nil (fun _ t _ => t) (Sk.rec (motive := fun _ => Sk) Sk.nil (fun _ t _ => t) s))))⟩ (fun n _ =>
    (Nat.rec (motive := fun _ => AK α) ⟨fun s _ k => Sk.rec (motive := fun _ => α) (k V.junk) (fun h _ _ => k h) (Sk.rec (motive := fun _ => Sk) Sk.nil (fun _ t _ => t) (Sk.rec (motive := fun _ => Sk) Sk.nil (fun _ t _ => t) (Sk.rec (motive := fun _ => Sk) Sk.nil (fun _ t _ => t) (Sk.rec (motive := fun _ => Sk) Sk.nil (fun _ t _ => t) (Sk.rec (motive := fun _ => Sk) Sk.nil (fun _ t _ => t) s)))))⟩ (fun n _ =>
    (Nat.rec (motive := fun _ => AK α) ⟨fun s _ k => Sk.rec (motive := fun _ => α) (k V.junk) (fun h _ _ => k h) (Sk.rec (motive := fun _ => Sk) Sk.nil (fun _ t _ => t) (Sk.rec (motive := fun _ => Sk) Sk.nil (fun _ t _ => t) (Sk.rec (motive := fun _ => Sk) Sk.nil (fun _ t _ => t) (Sk.rec (motive := fun _ => Sk) Sk.nil (fun _ t _ => t) (Sk.rec (motive := fun _ => Sk) Sk.nil (fun _ t _ => t) (Sk.rec (motive := fun _ => Sk) Sk.nil (fun _ t _ => t) s))))))⟩ (fun n _ =>
    (Nat.rec (motive := fun _ => AK α) ⟨fun s _ k => Sk.rec (motive := fun _ => α) (k V.junk) (fun h _ _ => k h) (Sk.rec (motive := fun _ => Sk) Sk.nil (fun _ t _ => t) (Sk.rec (motive := fun _ => Sk) Sk.nil (fun _ t _ => t) (Sk.rec (motive := fun _ => Sk) Sk.nil (fun _ t _ => t) (Sk.rec (motive := fun _ => Sk) Sk.nil (fun _ t _ => t) (Sk.rec (motive := fun _ => Sk) Sk.nil (fun _ t _ => t) (Sk.rec (motive := fun _ => Sk) Sk.nil (fun _ t _ => t) (Sk.rec (motive := fun _ => Sk) Sk.nil (fun _ t _ => t) s)))))))⟩ (fun n _ =>
    (Nat.rec (motive := fun _ => AK α) ⟨fun s _ k => Sk.rec (motive := fun _ => α) (k V.junk) (fun h _ _ => k h) (Sk.rec (motive := fun _ => Sk) Sk.nil (fun _ t _ => t) (Sk.rec (motive := fun _ => Sk) Sk.nil (fun _ t _ => t) (Sk.rec (motive := fun _ => Sk) Sk.nil (fun _ t _ => t) (Sk.rec (motive := fun _ => Sk) Sk.nil (fun _ t _ => t) (Sk.rec (motive := fun _ => Sk) Sk.nil (fun _ t _ => t) (Sk.rec (motive := fun _ => Sk) Sk.nil (fun _ t _ => t) (Sk.rec (motive := fun _ => Sk) Sk.nil (fun _ t _ => t) (Sk.rec (motive := fun _ => Sk) Sk.nil (fun _ t _ => t) s))))))))⟩ (fun n _ =>
    (Nat.rec (motive := fun _ => AK α) ⟨fun s _ k => Sk.rec (motive := fun _ => α) (k V.junk) (fun h _ _ => k h) (Sk.rec (motive := fun _ => Sk) Sk.nil (fun _ t _ => t) (Sk.rec (motive := fun _ => Sk) Sk.nil (fun _ t _ => t) (Sk.rec (motive := fun _ => Sk) Sk.nil (fun _ t _ => t) (Sk.rec (motive := fun _ => Sk) Sk.nil (fun _ t _ => t) (Sk.rec (motive := fun _ => Sk) Sk.nil (fun _ t _ => t) (Sk.rec (motive := fun _ => Sk) Sk.nil (fun _ t _ => t) (Sk.rec (motive := fun _ => Sk) Sk.nil (fun _ t _ => t) (Sk.rec (motive := fun _ => Sk) Sk.nil (fun _ t _ => t) (Sk.rec (motive := fun _ => Sk) Sk.nil (fun _ t _ => t) s)))))))))⟩ (fun n _ =>
    (Nat.rec (motive := fun _ => AK α) ⟨fun s _ k => Sk.rec (motive := fun _ => α) (k V.junk) (fun h _ _ => k h) (Sk.rec (motive := fun _ => Sk) Sk.nil (fun _ t _ => t) (Sk.rec (motive := fun _ => Sk) Sk.nil (fun _ t _ => t) (Sk.rec (motive := fun _ => Sk) Sk.nil (fun _ t _ => t) (Sk.rec (motive := fun _ => Sk) Sk.nil (fun _ t _ => t) (Sk.rec (motive := fun _ => Sk) Sk.nil (fun _ t _ => t) (Sk.rec (motive := fun _ => Sk) Sk.nil (fun _ t _ => t) (Sk.rec (motive := fun _ => Sk) Sk.nil (fun _ t _ => t) (Sk.rec (motive := fun _ => Sk) Sk.nil (fun _ t _ => t) (Sk.rec (motive := fun _ => Sk) Sk.nil (fun _ t _ => t) (Sk.rec (motive := fun _ => Sk) Sk.nil (fun _ t _ => t) s))))))))))⟩ (fun n _ =>
    (Nat.rec (motive := fun _ => AK α) ⟨fun s _ k => Sk.rec (motive := fun _ => α) (k V.junk) (fun h _ _ => k h) (Sk.rec (motive := fun _ => Sk) Sk.nil (fun _ t _ => t) (Sk.rec (motive := fun _ => Sk) Sk.nil (fun _ t _ => t) (Sk.rec (motive := fun _ => Sk) Sk.nil (fun _ t _ => t) (Sk.rec (motive := fun _ => Sk) Sk.nil (fun _ t _ => t) (Sk.rec (motive := fun _ => Sk) Sk.nil (fun _ t _ => t) (Sk.rec (motive := fun _ => Sk) Sk.nil (fun _ t _ => t) (Sk.rec (motive := fun _ => Sk) Sk.nil (fun _ t _ => t) (Sk.rec (motive := fun _ => Sk) Sk.nil (fun _ t _ => t) (Sk.rec (motive := fun _ => Sk) Sk.nil (fun _ t _ => t) (Sk.rec (motive := fun _ => Sk) Sk.nil (fun _ t _ => t) (Sk.rec (motive := fun _ => Sk) Sk.nil (fun _ t _ => t) s)))))))))))⟩ (fun n _ => ⟨fun s e k => k ((vnthC i).run s e)⟩) n)) n)) n)) n)) n)) n)) n)) n)) n)) n)) n)) n)) i
theorem skK_run (α : Type) (i : Nat) (s : Sk) (e : E8) (k : V → α) : (skK α i).run s e k = k ((vnthC i).run s e) := by
  have h : ∀ s : Sk, Sk.rec (motive := fun _ => α) (k V.junk) (fun h _ _ => k h) s = k (skhd s) := fun s => by cases s <;> rfl
  match i with
  | 0 => exact h _
  | 1 => exact h _
  | 2 => exact h _
  | 3 => exact h _
  | 4 => exact h _
  | 5 => exact h _
  | 6 => exact h _
  | 7 => exact h _
  | 8 => exact h _
  | 9 => exact h _
  | 10 => exact h _
  | 11 => exact h _
  | n + 12 => rfl
def e8K (α : Type) : Nat → Nat → AK α
  | 0, i => sel8 i
    ⟨fun _ x k => E8.rec (motive := fun _ => α) (fun a _ _ _ _ _ _ _ => k a) (fun _ _ _ _ _ _ _ _ _ _ _ _ _ _ _ _ => k .junk) x⟩
    ⟨fun _ x k => E8.rec (motive := fun _ => α) (fun _ b _ _ _ _ _ _ => k b) (fun _ _ _ _ _ _ _ _ _ _ _ _ _ _ _ _ => k .junk) x⟩
    ⟨fun _ x k => E8.rec (motive := fun _ => α) (fun _ _ c _ _ _ _ _ => k c) (fun _ _ _ _ _ _ _ _ _ _ _ _ _ _ _ _ => k .junk) x⟩
    ⟨fun _ x k => E8.rec (motive := fun _ => α) (fun _ _ _ d _ _ _ _ => k d) (fun _ _ _ _ _ _ _ _ _ _ _ _ _ _ _ _ => k .junk) x⟩
    ⟨fun _ x k => E8.rec (motive := fun _ => α) (fun _ _ _ _ e _ _ _ => k e) (fun _ _ _ _ _ _ _ _ _ _ _ _ _ _ _ _ => k .junk) x⟩
    ⟨fun _ x k => E8.rec (motive := fun _ => α) (fun _ _ _ _ _ f _ _ => k f) (fun _ _ _ _ _ _ _ _ _ _ _ _ _ _ _ _ => k .junk) x⟩
    ⟨fun _ x k => E8.rec (motive := fun _ => α) (fun _ _ _ _ _ _ g _ => k g) (fun _ _ _ _ _ _ _ _ _ _ _ _ _ _ _ _ => k .junk) x⟩
    ⟨fun _ x k => E8.rec (motive := fun _ => α) (fun _ _ _ _ _ _ _ h => k h) (fun _ _ _ _ _ _ _ _ _ _ _ _ _ _ _ _ => k .junk) x⟩
  | n + 1, i => sel8 (i % 8)
    ⟨fun s x k => (e8K α n (i / 8)).run s (E8.rec (motive := fun _ => E8) (fun _ _ _ _ _ _ _ _ => e0) (fun a _ _ _ _ _ _ _ _ _ _ _ _ _ _ _ => a) x) k⟩
    ⟨fun s x k => (e8K α n (i / 8)).run s (E8.rec (motive := fun _ => E8) (fun _ _ _ _ _ _ _ _ => e0) (fun _ b _ _ _ _ _ _ _ _ _ _ _ _ _ _ => b) x) k⟩
    ⟨fun s x k => (e8K α n (i / 8)).run s (E8.rec (motive := fun _ => E8) (fun _ _ _ _ _ _ _ _ => e0) (fun _ _ c _ _ _ _ _ _ _ _ _ _ _ _ _ => c) x) k⟩
    ⟨fun s x k => (e8K α n (i / 8)).run s (E8.rec (motive := fun _ => E8) (fun _ _ _ _ _ _ _ _ => e0) (fun _ _ _ d _ _ _ _ _ _ _ _ _ _ _ _ => d) x) k⟩
    ⟨fun s x k => (e8K α n (i / 8)).run s (E8.rec (motive := fun _ => E8) (fun _ _ _ _ _ _ _ _ => e0) (fun _ _ _ _ e _ _ _ _ _ _ _ _ _ _ _ => e) x) k⟩
    ⟨fun s x k => (e8K α n (i / 8)).run s (E8.rec (motive := fun _ => E8) (fun _ _ _ _ _ _ _ _ => e0) (fun _ _ _ _ _ f _ _ _ _ _ _ _ _ _ _ => f) x) k⟩
    ⟨fun s x k => (e8K α n (i / 8)).run s (E8.rec (motive := fun _ => E8) (fun _ _ _ _ _ _ _ _ => e0) (fun _ _ _ _ _ _ g _ _ _ _ _ _ _ _ _ => g) x) k⟩
    ⟨fun s x k => (e8K α n (i / 8)).run s (E8.rec (motive := fun _ => E8) (fun _ _ _ _ _ _ _ _ => e0) (fun _ _ _ _ _ _ _ h _ _ _ _ _ _ _ _ => h) x) k⟩
theorem e8K_run (α : Type) (n : Nat) : ∀ (i : Nat) (s : Sk) (x : E8) (k : V → α), (e8K α n i).run s x k = k ((eg n i).run x) := by
  induction n with
  | zero =>
    intro i s x k
    show (sel8 i _ _ _ _ _ _ _ _ : AK α).run s x k = k ((sel8 i _ _ _ _ _ _ _ _ : G8).run x)
    match i with
    | 0 | 1 | 2 | 3 | 4 | 5 | 6 => cases x <;> rfl
    | n + 7 => cases x <;> rfl
  | succ n ih =>
    intro i s x k
    rw [eg_succ]
    have hk : i % 8 < 8 := Nat.mod_lt _ (by omega)
    have e : (e8K α (n + 1) i).run s x k = (e8K α n (i / 8)).run s (chF (i % 8) x) k := by
      show (sel8 (i % 8) _ _ _ _ _ _ _ _ : AK α).run s x k = (e8K α n (i / 8)).run s (sel8 (i % 8) _ _ _ _ _ _ _ _) k
      generalize i % 8 = q at hk ⊢
      generalize i / 8 = q'
      rcases lt8 hk with rfl | rfl | rfl | rfl | rfl | rfl | rfl | rfl <;> rfl
    rw [e, ih]
def constK (α : Type) (v : V) : AK α := (V.rec (motive := fun _ => AK α) (⟨fun _ _ κ => κ v⟩) (⟨fun _ _ κ => κ v⟩) (⟨fun _ _ κ => κ .nilp⟩) (⟨fun _ _ κ => κ .nils⟩) (⟨fun _ _ κ => κ .nilf⟩) (⟨fun _ _ κ => κ .nilm⟩) (⟨fun _ _ κ => κ .nili⟩) (⟨fun _ _ κ => κ v⟩) (fun _ _ => ⟨fun _ _ κ => κ v⟩) (fun _ _ _ => ⟨fun _ _ κ => κ v⟩) (fun _ => ⟨fun _ _ κ => κ v⟩) (fun _ => ⟨fun _ _ κ => κ v⟩) (fun _ _ _ => ⟨fun _ _ κ => κ v⟩) (fun _ _ => ⟨fun _ _ κ => κ v⟩) (fun len code => ⟨fun _ _ κ => κ (.str len code)⟩) (fun _ _ _ _ => ⟨fun _ _ κ => κ v⟩) (fun _ _ _ => ⟨fun _ _ κ => κ v⟩) (fun _ _ _ _ _ _ => ⟨fun _ _ κ => κ v⟩) (fun _ _ _ _ _ => ⟨fun _ _ κ => κ v⟩) (fun b => ⟨fun _ _ κ => κ (.bool b)⟩) (fun k n => ⟨fun _ _ κ => κ (.int k n)⟩)) v
def tmpK (α : Type) (d keep : Nat) (ns : List Nat) (t : Nat) : AK α :=
  match idxOf t ns with
  | some i => skK α i
  | none => match kpos keep t with
    | some j => e8K α d j
    | none => ⟨fun _ _ k => k .junk⟩
theorem tmpK_run (α : Type) (d keep : Nat) (ns : List Nat) (t : Nat) (s : Sk) (e : E8) (k : V → α) : (tmpK α d keep ns t).run s e k = k ((accT d keep ns t).run s e) := by
  unfold tmpK accT
  cases idxOf t ns with
  | some i => exact skK_run α i s e k
  | none => cases kpos keep t with
    | some j => exact e8K_run α d j s e k
    | none => rfl
def accK (α : Type) (d keep : Nat) (ns : List Nat) (x : Operand) : AK α :=
  match x with
  | .tmp t => tmpK α d keep ns t
  | .const v => constK α (ofVal v)
  | .global _ => ⟨fun _ _ k => k .junk⟩
  | .func f => ⟨fun _ _ k => k (.fn f .nil)⟩
theorem accK_run (α : Type) (d keep : Nat) (ns : List Nat) (x : Operand) (s : Sk) (e : E8) (k : V → α) : (accK α d keep ns x).run s e k = k ((accO d keep ns x).run s e) := by
  cases x with
  | tmp t => exact tmpK_run α d keep ns t s e k
  | const v =>
    show (constK α (ofVal v)).run s e k = k ((constC (ofVal v)).run s e)
    cases ofVal v <;> rfl
  | _ => rfl
def argsK (α : Type) (d keep : Nat) (ns : List Nat) : List Operand → AK α
  | [] => ⟨fun _ _ k => k .nil⟩
  | x :: xs => ⟨fun s e k => (accK α d keep ns x).run s e fun v => (argsK α d keep ns xs).run s e fun vs => k (.cons v vs)⟩
theorem accT_cons_same (d keep : Nat) (ns : List Nat) (t : Nat) (v : V) (s : Sk) (e : E8) : (accT d keep (t :: ns) t).run (.cons v s) e = v := by
  unfold accT; simp only [idxOf_cons, if_true]; rfl
theorem accT_cons_ne (d keep : Nat) (ns : List Nat) {t t' : Nat} (h : t ≠ t') (v : V) (s : Sk) (e : E8) : (accT d keep (t :: ns) t').run (.cons v s) e = (accT d keep ns t').run s e := by
  unfold accT; simp only [idxOf_cons, h, if_false]
  cases idxOf t' ns with
  | none => cases kpos keep t' <;> rfl
  | some i => show (vnthC (i + 1)).run (.cons v s) e = (vnthC i).run s e; rw [vnthC_eq, vnthC_eq]; rfl

/-- the frame's variables stand for the model's -/
def LR (m : Mp) (d keep : Nat) (ns : List Nat) (s : Sk) (e : E8) (a : Act) : Prop := ∀ t, VR m ((accT d keep ns t).run s e) (a.tmps.getD t Go.undef)
theorem LR.op {m : Mp} {d keep : Nat} {ns : List Nat} {s : Sk} {e : E8} {a : Act} (h : LR m d keep ns s e a) (x : Operand) : VR m ((accO d keep ns x).run s e) (a.eval x) := by
  cases x with
  | tmp t => exact h t
  | const v => show VR m ((constC (ofVal v)).run s e) v; rw [constC_run]; exact ofVal_ok m v
  | global g => exact .junk _ _
  | func f => exact .fn m f .nil #[] rfl fun j hj => absurd hj (Nat.not_lt_zero _)
theorem LR.mono {m m' : Mp} {d keep : Nat} {ns : List Nat} {s : Sk} {e : E8} {a : Act} (h : LR m d keep ns s e a) (hl : m.Le m') : LR m' d keep ns s e a := fun t => (h t).mono hl
theorem put_size (a : Act) (dst : Option Tmp) (x : Value) : (a.put dst x).tmps.size = a.tmps.size := by cases dst <;> simp [Act.put]
theorem put_defers (a : Act) (dst : Option Tmp) (x : Value) : (a.put dst x).defers = a.defers := by cases dst <;> rfl
theorem LR.put {m : Mp} {d keep : Nat} {ns : List Nat} {s : Sk} {e : E8} {a : Act} (h : LR m d keep ns s e a) {t : Nat} (ht : t < a.tmps.size) {v : V} {x : Value} (hx : VR m v x) :
    LR m d keep (t :: ns) (.cons v s) e (a.put (some t) x) := by
  intro t'
  show VR m _ ((a.tmps.setIfInBounds t x).getD t' Go.undef)
  rw [getD_set]
  by_cases q : t = t'
  · subst q; rw [accT_cons_same, if_pos ⟨rfl, ht⟩]; exact hx
  · rw [accT_cons_ne _ _ _ q, if_neg (by rintro ⟨q', _⟩; exact q q')]; exact h t'
theorem LR.ghost {m : Mp} {d keep : Nat} {ns : List Nat} {s : Sk} {e : E8} {a : Act} (h : LR m d keep ns s e a) {t : Nat} {v : V} (hx : VR m v (a.tmps.getD t Go.undef)) : LR m d keep (t :: ns) (.cons v s) e a := by
  intro t'
  by_cases q : t = t'
  · subst q; rw [accT_cons_same]; exact hx
  · rw [accT_cons_ne _ _ _ q]; exact h t'

/-! what a session knows of each function: the variables that are kept -/
structure Plan where
  keep : Nat → List Nat

def fnOK (P : Program) (f : Nat) : Bool := (fnAt P f).any fun fn => fn.body.isSome && !(fn.name == "runtime.NumGoroutine")
/-- a function of the runtime -/
def extAny (P : Program) (g : Nat) (args : V) (h : Store) : Rc :=
  ifB (Nat.beq (vlen args) 1) (Bool.rec (Bool.rec (ifB (isExt P g .len) (extC P .len args h)) (extC P .swapper args h) (isExt P g .swapper)) (extC P .valueOf args h) (isExt P g .valueOf))
def callG (P : Program) (call : Nat → V → Store → Rc) (g : Nat) (args : V) (h : Store) : Rc := Bool.rec (extAny P g args h) (call g args h) (fnOK P g)
def callC (P : Program) (f : Operand) (args : Array Operand) : OpC :=
  ⟨fun call ρ h => (V.rec (motive := fun _ => Rc) (Rc.fail) (Rc.fail) (Rc.fail) (Rc.fail) (Rc.fail) (Rc.fail) (Rc.fail) (Rc.fail) (fun _ _ => Rc.fail) (fun g caps _ => callG P call g (vapp (opsV ρ args.toList) caps) h) (fun _ => Rc.fail) (fun _ => Rc.fail) (fun _ _ _ => Rc.fail) (fun _ _ => Rc.fail) (fun _ _ => Rc.fail) (fun _ _ _ _ => Rc.fail) (fun _ _ _ => Rc.fail) (fun _ _ _ _ _ _ => Rc.fail) (fun _ _ _ _ _ => Rc.fail) (fun _ => Rc.fail) (fun _ _ => Rc.fail)) (ρ f)⟩
def builtinC (P : Program) (b : Builtin) (args : Array Operand) (ats : Array TypeId) : OpC :=
  match b, args.toList, ats.toList with
  | .len, [x], [t] => lenMC P t x
  | .append, [s, x], [t, t'] => if t = t' then appendC P t s x else failC
  | .max, _, _ => minC true args
  | .min, _, _ => minC false args
  | _, _, _ => failC
def callAny (P : Program) (c : Call) : OpC :=
  match c.callee with
  | .builtin b => builtinC P b c.args c.argTypes
  | .value f => callC P f c.args
  | _ => failC
def opC (P : Program) (pl : Plan) (fid : Nat) (o : Oper) : OpC :=
  match o.op with
  | .move x => moveC x
  | .assign x => moveC x
  | .pick c a b => pickC c a b
  | .alloc t => allocC P t
  | .box _ x => boxC x
  | .build t ps => buildC P t ps
  | .buildSlice t n ps => buildSliceC P t n ps
  | .load t x => loadC P t x
  | .store t x y => storeC P t x y
  | .nilCheck x => nilCheckC x
  | .binOp b t x y _ => binX P b t x y
  | .unOp u _ x => unC u x
  | .makeFunc f a b => makeFuncC f a b
  | .makeSlice t l c => makeSliceC P t l c
  | .slice t x a b c => cutX P t x a b c
  | .fieldAddr t x f => fieldAddrC P t x f
  | .field t x f => fieldC P t x f
  | .indexAddr t x i => indexAddrC P t x i
  | .extract x i => extractC x i
  | .convert s d x => convX P s d x
  | .makeInterface t x => makeIfcC P t x
  | .makeMap t r => makeMapC P t r
  | .lookup t x k ok => lookupC P t x k ok
  | .mapUpdate t m k x => mapUpdateC P t m k x
  | .insert t m k x => mapUpdateC P t m k x
  | .mapEntry t m k => mapEntryC P t m k
  | .entryStore _ m s x => entryStoreC m s x
  | .range t x => rangeC P t x
  | .entry x => entryC x
  | .index t x i => indexC P t x i
  | .call c => callAny P c
  | _ => failC

/-- the calls' answers are those of the program -/
def CallOK (P : Program) (call : Nat → V → Store → Rc) : Prop :=
  ∀ f args h v h', call f args h = .ok v h' → ∀ (m : Mp) (w : World) (cargs : Array Value), HR m h w.heap → vlen args = cargs.size → (∀ j, j < cargs.size → VR m (vnth args j) (cargs.getD j Go.undef)) →
    Calls P f cargs w fun e w' => ∃ m' x, e = .returned x ∧ VR m' v x ∧ TR m h w m' h' w'

theorem opSound_wp {P : Program} {o : Oper} {c : OpC} (hs : OpSound P o c) {call : Nat → V → Store → Rc} {ρ : Operand → V} {h h' : Store} {v : V} (e : c.run call ρ h = .ok v h') {m : Mp} {w : World} {a : Act}
    (hr : HR m h w.heap) (hx : ∀ x, VR m (ρ x) (a.eval x)) {next : Act → World → Prop} {Q : Exit → Act → World → Prop} (hn : ∀ m' x w', VR m' v x → TR m h w m' h' w' → next (a.put o.dst x) w') : o.wp P a w next Q := by
  obtain ⟨m', w', nx, x, hrun, hnx, hv, ht⟩ := hs call ρ h v h' e m w a hr hx
  unfold Oper.wp
  rw [hrun]
  rcases hnx with rfl | ⟨rfl, rfl⟩
  · exact hn m' x w' hv ht
  · exact hn m' _ w' hv ht

theorem vapp_nth (l : List V) (b : V) (j : Nat) : vnth (vapp (ofL l) b) j = if j < l.length then l.getD j .junk else vnth b (j - l.length) := by
  induction l generalizing j with
  | nil => simp [ofL, vapp]
  | cons x l ih =>
    cases j with
    | zero => rfl
    | succ j =>
      show vnth (vapp (ofL l) b) j = _
      rw [ih]; simp
theorem opsV_ofL (ρ : Operand → V) (l : List Operand) : opsV ρ l = ofL (l.map ρ) := by
  induction l with
  | nil => rfl
  | cons x l ih => show V.cons (ρ x) (opsV ρ l) = _; rw [ih]; rfl

theorem callC_wp {P : Program} {dst : Option Tmp} {f : Operand} {args : Array Operand} {ats : Array TypeId} {ty : TypeId} {pos : String} {af : Array Edge} {gd : Option (Nat × Bool)}
    {call : Nat → V → Store → Rc} (hc : CallOK P call) {ρ : Operand → V} {h h' : Store} {v : V} (e : (callC P f args).run call ρ h = .ok v h') {m : Mp} {w : World} {a : Act}
    (hr : HR m h w.heap) (hx : ∀ x, VR m (ρ x) (a.eval x)) {next : Act → World → Prop} {Q : Exit → Act → World → Prop} (hn : ∀ m' x w', VR m' v x → TR m h w m' h' w' → next (a.put dst x) w') :
    (⟨dst, .call ⟨.value f, args, ats⟩, ty, pos, af, gd⟩ : Oper).wp P a w next Q := by
  have hf := hx f
  unfold callC at e
  generalize hv : ρ f = vf at *
  generalize hax : a.eval f = zf at *
  cases hf with
  | fn _ g caps cp hl hcp =>
    simp only [hv] at e
    have e : callG P call g (vapp (opsV ρ args.toList) caps) h = .ok v h' := e
    have hlen : vlen (vapp (opsV ρ args.toList) caps) = (args.map a.eval ++ cp).size := by
      rw [opsV_ofL, vlen_app _ _ ⟨_, rfl⟩, vlen_ofL, hl]; simp
    have hargs : ∀ j, j < (args.map a.eval ++ cp).size → VR m (vnth (vapp (opsV ρ args.toList) caps) j) ((args.map a.eval ++ cp).getD j Go.undef) := fun j hj => by
      rw [opsV_ofL, vapp_nth]
      simp only [List.length_map, Array.length_toList]
      by_cases hlt : j < args.size
      · rw [if_pos hlt]
        have e1 : (args.toList.map ρ).getD j .junk = ρ args[j] := by simp [List.getD, hlt]
        have e2 : (args.map a.eval ++ cp).getD j Go.undef = a.eval args[j] := by simp [Array.getD, show j < args.size + cp.size by omega, Array.getElem_append, hlt]
        rw [e1, e2]; exact hx _
      · rw [if_neg hlt]
        have hj2 : j - args.size < cp.size := by simp at hj; omega
        have e2 : (args.map a.eval ++ cp).getD j Go.undef = cp.getD (j - args.size) Go.undef := by simp [Array.getD, show j < args.size + cp.size by omega, Array.getElem_append, hlt, hj2]
        rw [e2]; exact hcp _ hj2
    have hres : (Go.resolve a.eval ⟨.value f, args, ats⟩ ty) = pure ⟨.fn (.func g) cp, args.map a.eval⟩ := by
      simp [Go.resolve, hax, Deferred.ofValue]
    unfold callG at e
    cases hb : fnOK P g with
    | false =>
      rw [hb] at e
      obtain ⟨hv1, e2⟩ := ifB_ok (show ifB (Nat.beq (vlen (vapp (opsV ρ args.toList) caps)) 1) _ = .ok v h' from e)
      have hs1 : (args.map a.eval ++ cp).size = 1 := by rw [← hlen]; exact Nat.eq_of_beq_eq_true hv1
      have fin : ∀ q, isExt P g q = true → extC P q (vapp (opsV ρ args.toList) caps) h = .ok v h' → (⟨dst, .call ⟨.value f, args, ats⟩, ty, pos, af, gd⟩ : Oper).wp P a w next Q := by
        intro q hq eq
        obtain ⟨m', w', x, h1, h2, h3⟩ := extC_ok hq eq hr hs1 (hargs 0 (by omega))
        unfold Oper.wp
        simp only [execOp, hres, Sem.run_bind, Sem.run_pure, Result.andThen_ok, invoke, h1]
        exact hn m' x w' h2 h3
      cases q1 : isExt P g .valueOf with
      | true => rw [q1] at e2; exact fin _ q1 e2
      | false =>
        rw [q1] at e2
        cases q2 : isExt P g .swapper with
        | true => rw [q2] at e2; exact fin _ q2 e2
        | false =>
          rw [q2] at e2
          obtain ⟨q3, e3⟩ := ifB_ok e2
          exact fin _ q3 e3
    | true =>
    rw [hb] at e
    have e2 : call g (vapp (opsV ρ args.toList) caps) h = .ok v h' := e
    unfold fnOK at hb
    rw [fnAt_eq] at hb
    cases hfn : P.funcs[g]? with
    | none => simp [hfn] at hb
    | some fn =>
      simp only [hfn, Option.any_some, Bool.and_eq_true, Bool.not_eq_true'] at hb
      have hcall := hc g _ h v h' e2 m w (args.map a.eval ++ cp) hr hlen hargs
      have hrun : (execOp a.eval ⟨dst, .call ⟨.value f, args, ats⟩, ty, pos, af, gd⟩).run P w = .ok (.enter g (args.map a.eval ++ cp)) w := by
        have hbn : fn.body.isNone = false := by
          cases hbd : fn.body with
          | none => rw [hbd] at hb; cases hb.1
          | some _ => rfl
        simp only [execOp, hres, Sem.run_bind, Sem.run_pure, Result.andThen_ok, invoke, callFunc, run_program, hfn, hb.2, Bool.false_eq_true, if_false, hbn]
      unfold Oper.wp
      rw [hrun]
      refine Calls.mono hcall fun e w' he => ?_
      obtain ⟨m', x, rfl, hv', ht⟩ := he
      exact hn m' x w' hv' ht
  | _ => simp only [hv] at e; cases e

theorem builtinC_wp {P : Program} {dst : Option Tmp} (b : Builtin) (args : Array Operand) (ats : Array TypeId) {ty : TypeId} {pos : String} {af : Array Edge} {gd : Option (Nat × Bool)}
    {call : Nat → V → Store → Rc} {ρ : Operand → V} {h h' : Store} {v : V} (e : (builtinC P b args ats).run call ρ h = .ok v h') {m : Mp} {w : World} {a : Act}
    (hr : HR m h w.heap) (hx : ∀ x, VR m (ρ x) (a.eval x)) {next : Act → World → Prop} {Q : Exit → Act → World → Prop} (hn : ∀ m' x w', VR m' v x → TR m h w m' h' w' → next (a.put dst x) w') :
    (⟨dst, .call ⟨.builtin b, args, ats⟩, ty, pos, af, gd⟩ : Oper).wp P a w next Q := by
  unfold builtinC at e
  split at e
  · rename_i x t h1 h2
    have q1 : args = #[x] := Array.ext' h1
    have q2 : ats = #[t] := Array.ext' h2
    subst q1 q2
    exact opSound_wp (lenMC_sound P dst t x #[t] rfl ty pos af gd) e hr hx hn
  · rename_i s x t t' h1 h2
    have q1 : args = #[s, x] := Array.ext' h1
    have q2 : ats = #[t, t'] := Array.ext' h2
    subst q1 q2
    split at e
    · rename_i q; subst q
      exact opSound_wp (appendC_sound P dst t s x ty pos af gd) e hr hx hn
    · cases e
  · exact opSound_wp (minC_sound P true dst args ats ty pos af gd) e hr hx hn
  · exact opSound_wp (minC_sound P false dst args ats ty pos af gd) e hr hx hn
  · cases e

theorem opC_wp {P : Program} (pl : Plan) (fid : Nat) (o : Oper) {call : Nat → V → Store → Rc} (hc : CallOK P call) {ρ : Operand → V} {h h' : Store} {v : V} (e : (opC P pl fid o).run call ρ h = .ok v h') {m : Mp} {w : World} {a : Act}
    (hr : HR m h w.heap) (hx : ∀ x, VR m (ρ x) (a.eval x)) {next : Act → World → Prop} {Q : Exit → Act → World → Prop} (hn : ∀ m' x w', VR m' v x → TR m h w m' h' w' → next (a.put o.dst x) w') : o.wp P a w next Q := by
  obtain ⟨dst, op, ty, pos, af, gd⟩ := o
  unfold opC at e
  cases op with
  | move x => exact opSound_wp (moveC_sound P _ _ _ _ _ _) e hr hx hn
  | assign x => exact opSound_wp (assignC_sound P _ _ _ _ _ _) e hr hx hn
  | pick c x y => exact opSound_wp (pickC_sound P _ _ _ _ _ _ _ _) e hr hx hn
  | alloc t => exact opSound_wp (allocC_sound P _ _ _ _ _ _) e hr hx hn
  | box t x => exact opSound_wp (boxC_sound P _ _ _ _ _ _ _) e hr hx hn
  | build t ps => exact opSound_wp (buildC_sound P _ _ _ _ _ _ _) e hr hx hn
  | buildSlice t n ps => exact opSound_wp (buildSliceC_sound P _ _ _ _ _ _ _ _) e hr hx hn
  | load t x => exact opSound_wp (loadC_sound P _ _ _ _ _ _ _) e hr hx hn
  | store t x y => exact opSound_wp (storeC_sound P _ _ _ _ _ _ _ _) e hr hx hn
  | nilCheck x => exact opSound_wp (nilCheckC_sound P _ _ _ _ _ _) e hr hx hn
  | binOp b t x y t2 => exact opSound_wp (binX_sound P _ _ _ _ _ _ _ _ _ _) e hr hx hn
  | unOp u t x => exact opSound_wp (unC_sound P _ _ _ _ _ _ _ _) e hr hx hn
  | makeFunc f x y => exact opSound_wp (makeFuncC_sound P _ _ _ _ _ _ _ _) e hr hx hn
  | makeSlice t l c => exact opSound_wp (makeSliceC_sound P _ _ _ _ _ _ _ _) e hr hx hn
  | slice t x lo hi mx => exact opSound_wp (cutX_sound P _ _ _ _ _ _ _ _ _ _) e hr hx hn
  | fieldAddr t x f => exact opSound_wp (fieldAddrC_sound P _ _ _ _ _ _ _ _) e hr hx hn
  | field t x f => exact opSound_wp (fieldC_sound P _ _ _ _ _ _ _ _) e hr hx hn
  | indexAddr t x i => exact opSound_wp (indexAddrC_sound P _ _ _ _ _ _ _ _) e hr hx hn
  | extract x i => exact opSound_wp (extractC_sound P _ _ _ _ _ _ _) e hr hx hn
  | index t x i => exact opSound_wp (indexC_sound P _ _ _ _ _ _ _ _) e hr hx hn
  | convert s d x => exact opSound_wp (convX_sound P _ _ _ _ _ _ _ _) e hr hx hn
  | makeInterface t x => exact opSound_wp (makeIfcC_sound P _ _ _ _ _ _ _) e hr hx hn
  | makeMap t r => exact opSound_wp (makeMapC_sound P _ _ _ _ _ _ _) e hr hx hn
  | lookup t x k ok => exact opSound_wp (lookupC_sound P _ _ _ _ _ _ _ _ _) e hr hx hn
  | mapUpdate t m k x => exact opSound_wp (mapUpdateC_sound P _ _ _ _ _ _ _ _ _) e hr hx hn
  | insert t m k x => exact opSound_wp (insertC_sound P _ _ _ _ _ _ _ _ _) e hr hx hn
  | mapEntry t m k => exact opSound_wp (mapEntryC_sound P _ _ _ _ _ _ _ _) e hr hx hn
  | entryStore t m s x => exact opSound_wp (entryStoreC_sound P _ _ _ _ _ _ _ _ _) e hr hx hn
  | range t x => exact opSound_wp (rangeC_sound P _ _ _ _ _ _ _) e hr hx hn
  | entry x => exact opSound_wp (entryC_sound P _ _ _ _ _ _) e hr hx hn
  | call c =>
    obtain ⟨callee, args, ats⟩ := c
    have e : (callAny P ⟨callee, args, ats⟩).run call ρ h = .ok v h' := e
    unfold callAny at e
    cases callee with
    | value f => exact callC_wp hc e hr hx hn
    | invoke r nm => cases e
    | builtin b =>
      exact builtinC_wp b args ats e hr hx hn
  | _ => cases e

end
end Go.Proofs.Ytglhpnieiphahaa.D
