/- The engine's operations, part eight: equality of scalars and of structs of scalars; maps and their iterators. -/
import Derived.Test.YtglhpnieiphahaaEI
import Derived.MapKept
import Derived.Laws.StructEq
set_option autoImplicit false
set_option linter.unusedSimpArgs false
set_option linter.unusedVariables false
namespace Go.Proofs.Ytglhpnieiphahaa.D
open Go
noncomputable section

/-! scalars: numbers, strings, bools -/
inductive Sc : Type
  | int
  | str
  | bool
def scOf (P : Program) (t : TypeId) : Option Sc :=
  match P.underlying t with
  | some (.int _) => some .int
  | some .string => some .str
  | some .bool => some .bool
  | _ => none
def onStr2 (a b : V) (k : Bool → Rc) : Rc :=
  (V.rec (motive := fun _ => Rc) (Rc.fail) (Rc.fail) (Rc.fail) (Rc.fail) (Rc.fail) (Rc.fail) (Rc.fail) (Rc.fail) (fun _ _ => Rc.fail) (fun _ _ _ => Rc.fail) (fun _ => Rc.fail) (fun _ => Rc.fail) (fun _ _ _ => Rc.fail) (fun _ _ => Rc.fail) (fun len code => (V.rec (motive := fun _ => Rc) (Rc.fail) (Rc.fail) (Rc.fail) (Rc.fail) (Rc.fail) (Rc.fail) (Rc.fail) (Rc.fail) (fun _ _ => Rc.fail) (fun _ _ _ => Rc.fail) (fun _ => Rc.fail) (fun _ => Rc.fail) (fun _ _ _ => Rc.fail) (fun _ _ => Rc.fail) (fun len' code' => k (bothB (Nat.beq len len') (Nat.beq code code'))) (fun _ _ _ _ => Rc.fail) (fun _ _ _ => Rc.fail) (fun _ _ _ _ _ _ => Rc.fail) (fun _ _ _ _ _ => Rc.fail) (fun _ => Rc.fail) (fun _ _ => Rc.fail)) b) (fun _ _ _ _ => Rc.fail) (fun _ _ _ => Rc.fail) (fun _ _ _ _ _ _ => Rc.fail) (fun _ _ _ _ _ => Rc.fail) (fun _ => Rc.fail) (fun _ _ => Rc.fail)) a
def scB (s : Sc) (a b : V) (k : Bool → Rc) : Rc :=
  Sc.rec (motive := fun _ => Rc) (on2 a b fun _ x y => k (Nat.beq x y)) (onStr2 a b k) (onBool a fun x => onBool b fun y => k (Bool.rec (notB y) y x)) s
/-- two values of a key's type, and whether they are equal -/
structure KEq (P : Program) (t : TypeId) (sc : Bool) (x y : Value) (r : Bool) : Prop where
  now : ∀ d, P.underlying t = some d → Instr.sameNow d x y = if sc then some r else none
  eq : ∀ (d : Nat) (w : World), (Op.equalIn (d + 2) t x y).run P w = .ok r w
  iff : r = true → x = y
  bits : ∀ n, Instr.sameBits (n + 1) x x = true
  chk : ∀ (e : Bool) (n : Nat) (w : World), (Instr.checkKey e (n + 2) t x).run P w = .ok () w
  agg : sc = false → ∃ xs ys, x = .agg xs ∧ y = .agg ys
/-- more of scalars -/
structure ScEq (P : Program) (t : TypeId) (x y : Value) (r : Bool) : Prop where
  k : KEq P t true x y r
  eq1 : ∀ (d : Nat) (w : World), (Op.equalIn (d + 1) t x y).run P w = .ok r w
  chk1 : ∀ (e : Bool) (n : Nat) (w : World), (Instr.checkKey e (n + 1) t x).run P w = .ok () w
  bits0 : ∀ n, Instr.sameBits n x x = true

theorem str_ext {a b : ByteArray} (h : (a.toList == b.toList) = true) : a = b := by
  have := eq_of_beq h
  rw [ByteArray.toList_eq, ByteArray.toList_eq] at this
  obtain ⟨⟨x⟩⟩ := a
  obtain ⟨⟨y⟩⟩ := b
  simp at this; rw [this]
theorem scB_ok {P : Program} {t : TypeId} {s : Sc} (ht : scOf P t = some s) {m : Mp} {a b : V} {x y : Value} {k : Bool → Rc} {r : V} {h : Store} (e : scB s a b k = .ok r h) (hx : VR m a x) (hy : VR m b y) :
    ∃ bl, ScEq P t x y bl ∧ k bl = .ok r h := by
  unfold scOf at ht
  split at ht
  · rename_i kd hu
    cases ht
    obtain ⟨kd', n, n', _, _, h2, h2', h3, h3', e2⟩ := on2_ok (show on2 a b _ = .ok r h from e) hx hy
    have sb := sv_beq kd' n n' h3 h3'
    subst h2 h2'
    have eq1 : ∀ (d : Nat) (w : World), (Op.equalIn (d + 1) t (.int kd' (sv kd' n)) (.int kd' (sv kd' n'))).run P w = .ok (Nat.beq n n') w := fun d w => by rw [run_equalIn_int w d t kd' kd _ _ hu, sb]
    have chk1 : ∀ (e : Bool) (j : Nat) (w : World), (Instr.checkKey e (j + 1) t (.int kd' (sv kd' n))).run P w = .ok () w := fun e j w => by
      unfold Instr.checkKey; simp [run_underlying hu]
    have bits0 : ∀ j, Instr.sameBits j (.int kd' (sv kd' n)) (.int kd' (sv kd' n)) = true := fun j => by simp [Instr.sameBits]
    refine ⟨Nat.beq n n', ⟨⟨fun d hd => ?_, fun d w => eq1 _ w, fun q => by rw [Nat.eq_of_beq_eq_true q], fun _ => bits0 _, fun e j w => chk1 e _ w, fun q => by cases q⟩, eq1, chk1, bits0⟩, e2⟩
    rw [hu] at hd; cases hd
    simp [Instr.sameNow, sb]
  · rename_i hu
    cases ht
    have e : onStr2 a b k = .ok r h := e
    cases hx with
    | str _ s1 =>
      cases hy with
      | str _ s2 =>
        have e : k (bothB (Nat.beq s1.size s2.size) (Nat.beq (bcode s1.data.toList) (bcode s2.data.toList))) = .ok r h := e
        rw [str_beq] at e
        have eq1 : ∀ (d : Nat) (w : World), (Op.equalIn (d + 1) t (.string s1) (.string s2)).run P w = .ok (s1.toList == s2.toList) w := fun d w => run_equalIn_string w d t s1 s2 hu
        have chk1 : ∀ (e : Bool) (j : Nat) (w : World), (Instr.checkKey e (j + 1) t (.string s1)).run P w = .ok () w := fun e j w => by
          unfold Instr.checkKey; simp [run_underlying hu]
        have bits0 : ∀ j, Instr.sameBits j (.string s1) (.string s1) = true := fun j => by simp [Instr.sameBits, beq_toListBytes]
        refine ⟨_, ⟨⟨fun d hd => ?_, fun d w => eq1 _ w, fun q => by rw [str_ext q], fun _ => bits0 _, fun e j w => chk1 e _ w, fun q => by cases q⟩, eq1, chk1, bits0⟩, e⟩
        rw [hu] at hd; cases hd
        simp [Instr.sameNow, beq_toListBytes]
      | _ => cases e
    | _ => cases e
  · rename_i hu
    cases ht
    obtain ⟨b1, _, h2, e2⟩ := onBool_ok (show onBool a _ = .ok r h from e) hx
    obtain ⟨b2, _, h2', e3⟩ := onBool_ok e2 hy
    subst h2 h2'
    have hb : (Bool.rec (motive := fun _ => Bool) (notB b2) b2 b1) = (b1 == b2) := by cases b1 <;> cases b2 <;> rfl
    have e3 : k (Bool.rec (motive := fun _ => Bool) (notB b2) b2 b1) = .ok r h := e3
    rw [hb] at e3
    have eq1 : ∀ (d : Nat) (w : World), (Op.equalIn (d + 1) t (.bool b1) (.bool b2)).run P w = .ok (b1 == b2) w := fun d w => run_equalIn_bool' w d t b1 b2 hu
    have chk1 : ∀ (e : Bool) (j : Nat) (w : World), (Instr.checkKey e (j + 1) t (.bool b1)).run P w = .ok () w := fun e j w => by
      unfold Instr.checkKey; simp [run_underlying hu]
    have bits0 : ∀ j, Instr.sameBits j (.bool b1) (.bool b1) = true := fun j => by simp [Instr.sameBits]
    refine ⟨_, ⟨⟨fun d hd => ?_, fun d w => eq1 _ w, fun q => by rw [eq_of_beq q], fun _ => bits0 _, fun e j w => chk1 e _ w, fun q => by cases q⟩, eq1, chk1, bits0⟩, e3⟩
    rw [hu] at hd; cases hd
    simp [Instr.sameNow]
  · cases ht

/-! structs of scalars -/
inductive KK : Type
  | one (s : Sc)
  | rcd (n : Nat) (l : List (Nat × Sc))
def isOne (kk : KK) : Bool := match kk with | .one _ => true | .rcd _ _ => false
def fieldSc (P : Program) (f : Field) : Option (Nat × Sc) :=
  if f.name = "_" then none else match scOf P f.type, tyOf P f.type with
    | some s, some (false, 1) => some (f.offset, s)
    | _, _ => none
def kkOf (P : Program) (t : TypeId) : Option KK :=
  match scOf P t with
  | some s => some (.one s)
  | none => match P.underlying t with
    | some (.struct fs) => if P.stoodInHeld t = false then match fs.toList.mapM (fieldSc P) with
        | some l => if l.map (·.1) = List.range l.length then some (.rcd l.length l) else none
        | none => none
      else none
    | _ => none
def recB (l : List (Nat × Sc)) (a b : V) : (Bool → Rc) → Rc :=
  List.rec (motive := fun _ => (Bool → Rc) → Rc) (fun k => k true) (fun q _ ih k => scB q.2 (cellAt a q.1) (cellAt b q.1) fun r => ih fun r' => k (bothB r r')) l
def onAgg (n : Nat) (v : V) (k : Rc) : Rc := (V.rec (motive := fun _ => Rc) (Rc.fail) (Rc.fail) (Rc.fail) (Rc.fail) (Rc.fail) (Rc.fail) (Rc.fail) (Rc.fail) (fun _ _ => Rc.fail) (fun _ _ _ => Rc.fail) (fun _ => Rc.fail) (fun _ => Rc.fail) (fun _ _ _ => Rc.fail) (fun _ _ => Rc.fail) (fun _ _ => Rc.fail) (fun _ _ _ _ => Rc.fail) (fun n' _ _ => ifB (Nat.beq n' n) k) (fun _ _ _ _ _ _ => Rc.fail) (fun _ _ _ _ _ => Rc.fail) (fun _ => Rc.fail) (fun _ _ => Rc.fail)) v
def kkB (kk : KK) (a b : V) (k : Bool → Rc) : Rc := KK.rec (motive := fun _ => Rc) (fun s => scB s a b k) (fun n l => onAgg n a (onAgg n b (recB l a b k))) kk

theorem run_part1 {P : Program} {t : TypeId} (ht : tyOf P t = some (false, 1)) (cs : Array Value) (off : Nat) (h : off < cs.size) (w : World) : (part t cs off).run P w = .ok (cs.getD off Go.undef) w := by
  obtain ⟨d, i, hd, hi, hag, hsz⟩ := tyOf_some ht
  unfold part
  simp [run_isAgg hd, hag, Array.getD, h]
theorem fieldSc_some {P : Program} {f : Field} {q : Nat × Sc} (h : fieldSc P f = some q) : f.name ≠ "_" ∧ scOf P f.type = some q.2 ∧ tyOf P f.type = some (false, 1) ∧ q.1 = f.offset := by
  unfold fieldSc at h
  split at h
  · cases h
  · rename_i hn
    split at h
    · rename_i s hs ht; cases h; exact ⟨hn, hs, ht, rfl⟩
    · cases h
theorem eqFields_run {P : Program} {m : Mp} {n : Nat} {ca cb : V} {xs ys : Array Value} (hxs : xs.size = n) (hys : ys.size = n) (hca : ∀ j, j < n → VR m (vnth ca j) (xs.getD j Go.undef)) (hcb : ∀ j, j < n → VR m (vnth cb j) (ys.getD j Go.undef)) (fs : List Field) :
    ∀ (l : List (Nat × Sc)), fs.mapM (fieldSc P) = some l → (∀ q ∈ l, q.1 < n) → ∀ {k : Bool → Rc} {r : V} {h : Store}, recB l (.agg n ca) (.agg n cb) k = .ok r h →
      ∃ bl, k bl = .ok r h ∧ (∀ (d : Nat) (w : World), (Op.eqFields (d + 1) xs ys fs).run P w = .ok bl w) ∧ (bl = true → ∀ q ∈ l, xs.getD q.1 Go.undef = ys.getD q.1 Go.undef) ∧
        (∀ q ∈ l, ∀ j, Instr.sameBits j (xs.getD q.1 Go.undef) (xs.getD q.1 Go.undef) = true) ∧
        ∀ (e : Bool) (j : Nat) (w : World), (do
          for f in fs do
            if f.name ≠ "_" then Instr.checkKey e (j + 1) f.type (← part f.type xs f.offset) : Sem PUnit).run P w = .ok PUnit.unit w := by
  induction fs with
  | nil =>
    intro l hl hb k r h e
    simp at hl; subst hl
    exact ⟨true, e, fun d w => by simp [Op.eqFields], fun _ q hq => by simp at hq, fun q hq => by simp at hq, fun _ _ w => by simp⟩
  | cons f fs ih =>
    intro l hl hb k r h e
    rw [List.mapM_cons] at hl
    cases hf : fieldSc P f with
    | none => rw [hf] at hl; simp at hl
    | some q =>
      cases hfs : fs.mapM (fieldSc P) with
      | none => rw [hf, hfs] at hl; simp at hl
      | some l' =>
        rw [hf, hfs] at hl; simp at hl; subst hl
        obtain ⟨g1, g2, g3, g4⟩ := fieldSc_some hf
        have hq : q.1 < n := hb q (by simp)
        obtain ⟨b1, s1, e1⟩ := scB_ok g2 (show scB q.2 (cellAt (.agg n ca) q.1) (cellAt (.agg n cb) q.1) (fun r => recB l' (.agg n ca) (.agg n cb) fun r' => k (bothB r r')) = .ok r h from e) (hca q.1 hq) (hcb q.1 hq)
        obtain ⟨b2, e2, h1, h2, h3, h4⟩ := ih l' hfs (fun q' hq' => hb q' (by simp [hq'])) e1
        have px := fun w => run_part1 (P := P) g3 xs f.offset (by omega) w
        have py := fun w => run_part1 (P := P) g3 ys f.offset (by omega) w
        rw [g4] at s1
        refine ⟨bothB b1 b2, e2, fun d w => ?_, fun hbb q' hq' => ?_, fun q' hq' j => ?_, fun e j w => ?_⟩
        · unfold Op.eqFields
          rw [if_pos g1]
          simp only [Sem.run_bind, px, py, Result.andThen_ok, s1.eq1]
          cases b1
          · simp [bothB]
          · simp [h1]; rfl
        · rw [bothB_eq, Bool.and_eq_true] at hbb
          rcases List.mem_cons.1 hq' with rfl | hq'
          · rw [g4]; exact s1.k.iff hbb.1
          · exact h2 hbb.2 q' hq'
        · rcases List.mem_cons.1 hq' with rfl | hq'
          · rw [g4]; exact s1.bits0 j
          · exact h3 q' hq' j
        · have := h4 e j w
          simp only [Sem.run_bind] at this
          simp only [List.forIn_cons, Sem.run_bind]
          rw [if_pos g1]
          simp only [Sem.run_bind, px, Result.andThen_ok, s1.chk1, Sem.run_pure]
          exact this

theorem kkB_ok {P : Program} {t : TypeId} {kk : KK} (ht : kkOf P t = some kk) {m : Mp} {a b : V} {x y : Value} {k : Bool → Rc} {r : V} {h : Store} (e : kkB kk a b k = .ok r h) (hx : VR m a x) (hy : VR m b y) :
    ∃ bl, KEq P t (isOne kk) x y bl ∧ k bl = .ok r h := by
  unfold kkOf at ht
  split at ht
  · rename_i s hs
    cases ht
    obtain ⟨bl, h1, h2⟩ := scB_ok hs (show scB s a b k = .ok r h from e) hx hy
    exact ⟨bl, h1.k, h2⟩
  · split at ht
    rotate_left
    · cases ht
    rename_i fs hu
    split at ht
    rotate_left
    · cases ht
    rename_i hst
    split at ht
    rotate_left
    · cases ht
    rename_i l hl
    split at ht
    rotate_left
    · cases ht
    rename_i hrg
    cases ht
    have e : onAgg l.length a (onAgg l.length b (recB l a b k)) = .ok r h := e
    cases hx with
    | agg _ n ca xs g1 g2 g3 =>
      obtain ⟨hb, e2⟩ := ifB_ok (b := Nat.beq n l.length) (k := onAgg l.length b (recB l (.agg n ca) b k)) e
      obtain rfl := Nat.eq_of_beq_eq_true hb
      cases hy with
      | agg _ n' cb ys g1' g2' g3' =>
        obtain ⟨hb', e3⟩ := ifB_ok (b := Nat.beq n' l.length) (k := recB l (.agg l.length ca) (.agg n' cb) k) e2
        obtain rfl := Nat.eq_of_beq_eq_true hb'
        have hlt : ∀ q ∈ l, q.1 < l.length := fun q hq => by
          have : q.1 ∈ l.map (·.1) := List.mem_map.2 ⟨q, hq, rfl⟩
          rw [hrg] at this; simpa using this
        have hall : ∀ j, j < l.length → ∃ q ∈ l, q.1 = j := fun j hj => by
          have : j ∈ l.map (·.1) := by rw [hrg]; simpa using hj
          obtain ⟨q, h1, h2⟩ := List.mem_map.1 this
          exact ⟨q, h1, h2⟩
        obtain ⟨bl, e4, h1, h2, h3, h4⟩ := eqFields_run g1 g1' g3 g3' fs.toList l hl hlt e3
        have hfo : P.fieldsOf t = fs := by simp [Program.fieldsOf, hu]
        refine ⟨bl, ⟨fun d hd => ?_, fun d w => ?_, fun q => ?_, fun j => ?_, fun e j w => ?_, fun _ => ⟨xs, ys, rfl, rfl⟩⟩, e4⟩
        · rw [hu] at hd; cases hd; rfl
        · rw [run_equalIn_struct w (d + 1) t xs ys (by rw [hfo]; exact hu) hst, hfo]; exact h1 d w
        · congr 1
          apply Array.ext
          · omega
          · intro j hj hj'
            obtain ⟨q', hq1, hq2⟩ := hall j (by omega)
            have := h2 q q' hq1
            rw [hq2] at this
            simpa [Array.getD, hj, hj'] using this
        · simp only [Instr.sameBits, beq_self_eq_true, Bool.true_and, List.all_eq_true]
          rintro ⟨u, v⟩ huv
          have huv' : u = v ∧ ∃ j, j < xs.size ∧ xs.getD j Go.undef = u := by
            obtain ⟨j, hj, hje⟩ := List.mem_iff_getElem.1 huv
            simp at hje hj
            exact ⟨hje.1.symm.trans hje.2, j, hj, by simp [Array.getD, hj, hje.1]⟩
          obtain ⟨rfl, j', hj', rfl⟩ := huv'
          obtain ⟨q', hq1, hq2⟩ := hall j' (by omega)
          have := h3 q' hq1 j
          rw [hq2] at this; exact this
        · unfold Instr.checkKey
          simp only [Sem.run_bind, run_underlying hu, Result.andThen_ok]
          rw [← Array.forIn_toList]
          have := h4 e j w
          simp only [Sem.run_bind] at this
          exact this
      | _ => cases e2
    | _ => cases e

end
end Go.Proofs.Ytglhpnieiphahaa.D
