/- The engine's operations, part nine: maps: made, asked, written; iterators over them. -/
import Derived.Test.YtglhpnieiphahaaEJ
set_option autoImplicit false
set_option linter.unusedSimpArgs false
set_option linter.unusedVariables false
namespace Go.Proofs.Ytglhpnieiphahaa.D
open Go
noncomputable section

/-! entries -/
def vsnoc (x : V) (l : V) : V := (V.rec (motive := fun _ => V) (V.cons x V.nil) (V.cons x V.nil) (V.cons x V.nil) (V.cons x V.nil) (V.cons x V.nil) (V.cons x V.nil) (V.cons x V.nil) (V.cons x V.nil) (fun _ _ => V.cons x V.nil) (fun _ _ _ => V.cons x V.nil) (fun _ => V.cons x V.nil) (fun _ => V.cons x V.nil) (fun _ _ _ => V.cons x V.nil) (fun _ _ => V.cons x V.nil) (fun _ _ => V.cons x V.nil) (fun h _ _ ih_t => V.cons h ih_t) (fun _ _ _ => V.cons x V.nil) (fun _ _ _ _ _ _ => V.cons x V.nil) (fun _ _ _ _ _ => V.cons x V.nil) (fun _ => V.cons x V.nil) (fun _ _ => V.cons x V.nil)) l
theorem vlen_snoc (x l : V) : vlen (vsnoc x l) = vlen l + 1 := by
  induction l with
  | cons h t _ ih => show vlen (.cons h (vsnoc x t)) = _; simp [ih]
  | _ => rfl
theorem vnth_snoc (x l : V) (i : Nat) : vnth (vsnoc x l) i = if i = vlen l then x else vnth l i := by
  induction l generalizing i with
  | cons h t _ ih =>
    show vnth (.cons h (vsnoc x t)) i = _
    cases i with
    | zero => simp
    | succ i => simp [ih]
  | _ =>
    show vnth (.cons x .nil) i = _
    cases i with
    | zero => rfl
    | succ i => rfl
def mkEnt (k v : V) : V := V.cons k (V.cons v V.nil)
@[simp] theorem pk_mk (k v : V) : pk (mkEnt k v) = k := rfl
@[simp] theorem pv_mk (k v : V) : pv (mkEnt k v) = v := rfl

def findGo (kk : KK) (key : V) (es : V) : Nat → (Nat → V → Rc) → Rc → Rc :=
  (V.rec (motive := fun _ => Nat → (Nat → V → Rc) → Rc → Rc) (fun _ _ _ => Rc.fail) (fun _ _ _ => Rc.fail) (fun _ _ _ => Rc.fail) (fun _ _ _ => Rc.fail) (fun _ _ _ => Rc.fail) (fun _ _ _ => Rc.fail) (fun _ _ _ => Rc.fail) (fun _ _ nf => nf) (fun _ _ => fun _ _ _ => Rc.fail) (fun _ _ _ => fun _ _ _ => Rc.fail) (fun _ => fun _ _ _ => Rc.fail) (fun _ => fun _ _ _ => Rc.fail) (fun _ _ _ => fun _ _ _ => Rc.fail) (fun _ _ => fun _ _ _ => Rc.fail) (fun _ _ => fun _ _ _ => Rc.fail) (fun e _ _ ih_t => fun i f nf => kkB kk key (pk e) fun r => Bool.rec (ih_t (Nat.succ i) f nf) (f i (pv e)) r) (fun _ _ _ => fun _ _ _ => Rc.fail) (fun _ _ _ _ _ _ => fun _ _ _ => Rc.fail) (fun _ _ _ _ _ => fun _ _ _ => Rc.fail) (fun _ => fun _ _ _ => Rc.fail) (fun _ _ => fun _ _ _ => Rc.fail)) es
/-- what looking for a key comes to -/
def FoundAt (P : Program) (kt : TypeId) (sc : Bool) (k : Value) (l : List MapEntry) (i : Nat) (res : Option (Nat × Value)) : Prop :=
  (∀ d, P.underlying kt = some d → if sc then Instr.findNow d k l i = some res else (l = [] ∨ Instr.findNow d k l i = none)) ∧ ∀ w, (Instr.findAsking kt k l i).run P w = .ok res w
theorem findGo_ok {P : Program} {kt : TypeId} {kk : KK} (ht : kkOf P kt = some kk) {m : Mp} {key : V} {k : Value} (hk : VR m key k) (es : V) :
    ∀ (l : List MapEntry) (i : Nat), vlen es = l.length → (∀ j (h : j < l.length), VR m (pk (vnth es j)) l[j].key) → ∀ {f : Nat → V → Rc} {nf : Rc} {r : V} {h : Store}, findGo kk key es i f nf = .ok r h →
      (∃ j, ∃ hj : j < l.length, f (i + j) (pv (vnth es j)) = .ok r h ∧ FoundAt P kt (isOne kk) k l i (some (i + j, l[j].val)) ∧ k = l[j].key ∧ (∀ n, Instr.sameBits (n + 1) k k = true) ∧ ∀ (e : Bool) (n : Nat) (w : World), (Instr.checkKey e (n + 2) kt k).run P w = .ok () w) ∨
      (nf = .ok r h ∧ FoundAt P kt (isOne kk) k l i none) := by
  induction es with
  | nil =>
    intro l i hl _ f nf r h e
    have : l = [] := List.eq_nil_of_length_eq_zero hl.symm
    subst this
    exact .inr ⟨e, fun d _ => by split <;> simp [Instr.findNow], fun w => by simp [Instr.findAsking]⟩
  | cons en t _ ih =>
    intro l i hl hks f nf r h e
    cases l with
    | nil => simp at hl
    | cons x l =>
      have h0 : VR m (pk en) x.key := hks 0 (by simp)
      obtain ⟨bl, hq, e2⟩ := kkB_ok ht (show kkB kk key (pk en) _ = .ok r h from e) hk h0
      cases bl with
      | true =>
        refine .inl ⟨0, by simp, e2, ⟨fun d hd => ?_, fun w => ?_⟩, hq.iff rfl, hq.bits, hq.chk⟩
        · have := hq.now d hd
          cases hk1 : isOne kk with
          | true => rw [hk1] at this; simp only [if_true] at this ⊢; simp [Instr.findNow, this]
          | false => rw [hk1] at this; simp only [Bool.false_eq_true, if_false] at this ⊢; exact .inr (by simp [Instr.findNow, this])
        · have := hq.eq 9998 w
          simp [Instr.findAsking, Op.equal, Op.maxDepth, this]
      | false =>
        have hbase : ∀ res, FoundAt P kt (isOne kk) k l (i + 1) res → FoundAt P kt (isOne kk) k (x :: l) i res := by
          intro res hf
          refine ⟨fun d hd => ?_, fun w => ?_⟩
          · have := hq.now d hd
            have hf := hf.1 d hd
            cases hk1 : isOne kk with
            | true => rw [hk1] at this hf; simp only [if_true] at this hf ⊢; simp [Instr.findNow, this, hf]
            | false => rw [hk1] at this; simp only [Bool.false_eq_true, if_false] at this ⊢; exact .inr (by simp [Instr.findNow, this])
          · have := hq.eq 9998 w
            have hf := hf.2 w
            simp [Instr.findAsking, Op.equal, Op.maxDepth, this, hf]
        rcases ih l (i + 1) (by simpa using hl) (fun j hj => by have := hks (j + 1) (by simpa using hj); simpa using this) e2 with ⟨j, hj, a1, a2, a3, a4, a5⟩ | ⟨a1, a2⟩
        · refine .inl ⟨j + 1, by simpa using hj, ?_, ?_, by simpa using a3, a4, a5⟩
          · rw [show i + (j + 1) = i + 1 + j by omega]; exact a1
          · have := hbase _ a2
            rw [show i + (j + 1) = i + 1 + j by omega]; simpa using this
        · exact .inr ⟨a1, hbase _ a2⟩
  | _ => intro l i _ _ f nf r h e; cases e
theorem FoundAt.run {P : Program} {kt : TypeId} {sc : Bool} {k : Value} {l : List MapEntry} {res : Option (Nat × Value)} (h : FoundAt P kt sc k l 0 res) {d : TypeDesc} (hd : P.underlying kt = some d) (w : World) : (Instr.findKey kt k l).run P w = .ok res w := by
  have h1 := h.1 d hd
  have h2 := h.2 w
  unfold Instr.findKey
  simp only [Sem.run_bind, run_underlying hd, Result.andThen_ok]
  cases sc with
  | true => simp only [if_true] at h1; simp [h1]
  | false =>
    simp only [Bool.false_eq_true, if_false] at h1
    rcases h1 with rfl | h1
    · simp [Instr.findNow]
      simpa [Instr.findAsking] using h2
    · simp [h1, h2]

/-- the static half of a key -/
theorem kk_underlying {P : Program} {t : TypeId} {kk : KK} (h : kkOf P t = some kk) : ∃ d, P.underlying t = some d := by
  cases hu : P.underlying t with
  | some d => exact ⟨d, rfl⟩
  | none => simp [kkOf, scOf, hu] at h
/-- is it a key? asked of itself -/
def selfB (kk : KK) (key : V) (k : Rc) : Rc := kkB kk key key fun _ => k
theorem selfB_ok {P : Program} {kt : TypeId} {kk : KK} (ht : kkOf P kt = some kk) {m : Mp} {key : V} {kv : Value} (hk : VR m key kv) {k : Rc} {r : V} {h : Store} (e : selfB kk key k = .ok r h) :
    k = .ok r h ∧ (∀ (e : Bool) (w : World), (Instr.checkKey e 10000 kt kv).run P w = .ok () w) ∧ ∀ n, Instr.sameBits (n + 1) kv kv = true := by
  obtain ⟨bl, h1, h2⟩ := kkB_ok ht (show kkB kk key key _ = .ok r h from e) hk hk
  exact ⟨h2, fun e w => h1.chk e 9998 w, h1.bits⟩

/-! a map's entries -/
def onMapOb (k : Nat → V → Rc) (ob : Ob) : Rc := (Ob.rec (motive := fun _ => Rc) (Rc.fail) (fun _ _ _ _ => Rc.fail) (fun _ _ _ _ => Rc.fail) (fun size es => k size es) (fun _ _ _ _ => Rc.fail)) ob
def onMap (v : V) (h : Store) (k : Nat → Nat → V → Rc) : Rc := (V.rec (motive := fun _ => Rc) (Rc.fail) (Rc.fail) (Rc.fail) (Rc.fail) (Rc.fail) (Rc.fail) (Rc.fail) (Rc.fail) (fun _ _ => Rc.fail) (fun _ _ _ => Rc.fail) (fun _ => Rc.fail) (fun id => onMapOb (k id) (h.get id)) (fun _ _ _ => Rc.fail) (fun _ _ => Rc.fail) (fun _ _ => Rc.fail) (fun _ _ _ _ => Rc.fail) (fun _ _ _ => Rc.fail) (fun _ _ _ _ _ _ => Rc.fail) (fun _ _ _ _ _ => Rc.fail) (fun _ => Rc.fail) (fun _ _ => Rc.fail)) v
theorem onMap_ok {v : V} {h : Store} {k : Nat → Nat → V → Rc} {r : V} {h' : Store} (e : onMap v h k = .ok r h') {m : Mp} {w : World} {x : Value} (hr : HR m h w.heap) (hx : VR m v x) :
    ∃ id size es p o n arr, v = .mp id ∧ x = .map (some p) ∧ h.get id = .map size es ∧ m.io id 0 = some (p, o, n) ∧ w.heap[p]? = some (.map arr size) ∧ arr.size = size ∧ vlen es = size ∧
      (∀ i (h : i < arr.size), EntR m (vnth es i) arr[i] i) ∧ k id size es = .ok r h' := by
  cases hx with
  | mp _ id p o n hio =>
    have e : onMapOb (k id) (h.get id) = .ok r h' := e
    cases hob : h.get id with
    | map size es =>
      rw [hob] at e
      obtain ⟨x, hp, hb⟩ := hr.blk id 0 p o n (.inr ⟨rfl, by rw [hob]; rfl⟩) hio
      rw [hob] at hb
      cases hb with
      | map _ _ _ _ arr h1 h2 h3 => exact ⟨id, size, es, p, o, n, arr, rfl, rfl, hob, hio, hp, h1, h2, h3, e⟩
    | _ => rw [hob] at e; cases e
  | _ => cases e

/-! make -/
def makeMapC (P : Program) (t : TypeId) (r : Option Operand) : OpC :=
  match P.underlying t with
  | some (.map _ _) => match r with
    | none => ⟨fun _ _ h => .ok (.mp h.next) (h.push (.map 0 .nil))⟩
    | some x => ⟨fun _ ρ h => onInt (ρ x) fun _ _ => .ok (.mp h.next) (h.push (.map 0 .nil))⟩
  | _ => failC
theorem OB.emptyMap (m : Mp) : OB m (.map 0 .nil) 0 0 (.map #[] 0) := .map 0 .nil 0 0 #[] rfl rfl fun i hi => absurd hi (Nat.not_lt_zero _)
theorem makeMapC_run {P : Program} {t : TypeId} {r : Option Operand} {call : Nat → V → Store → Rc} {ρ : Operand → V} {h h' : Store} {v : V} (e : (makeMapC P t r).run call ρ h = .ok v h') :
    v = .mp h.next ∧ h' = h.push (.map 0 .nil) ∧ ∀ (m : Mp) (a : Act) (w : World) (dst : Option Tmp) (ty : TypeId) (pos : String) (af : Array Edge) (gd : Option (Nat × Bool)), (∀ x, VR m (ρ x) (a.eval x)) →
      (execOp a.eval ⟨dst, .makeMap t r, ty, pos, af, gd⟩).run P w = .ok (.value (.map (some w.heap.size))) (w.alloc (.map #[] 0)) := by
  unfold makeMapC at e
  split at e
  rotate_left
  · cases e
  rename_i kt et hu
  split at e
  · cases e
    exact ⟨rfl, rfl, fun m a w dst ty pos af gd hx => by simp [execOp, Instr.makeMap]⟩
  · rename_i x
    have e : onInt (ρ x) (fun _ _ => Rc.ok (.mp h.next) (h.push (.map 0 .nil))) = .ok v h' := e
    cases hv : ρ x with
    | int kd n =>
      rw [hv] at e; cases e
      refine ⟨rfl, rfl, fun m a w dst ty pos af gd hx => ?_⟩
      have hxx := hx x
      rw [hv] at hxx
      generalize hax : a.eval x = z at hxx
      cases hxx
      simp [execOp, Instr.makeMap, run_underlying hu, hax, asInt, asIntOf]
    | _ => rw [hv] at e; cases e
theorem makeMapC_sound (P : Program) (dst : Option Tmp) (t : TypeId) (r : Option Operand) (ty : TypeId) (pos : String) (af : Array Edge) (gd : Option (Nat × Bool)) : OpSound P ⟨dst, .makeMap t r, ty, pos, af, gd⟩ (makeMapC P t r) := by
  intro call ρ h v h' e m w a hr hx
  obtain ⟨rfl, rfl, hrun⟩ := makeMapC_run e
  obtain ⟨m', t1, _, t2⟩ := TR.newOb hr (ob := .map 0 .nil) (.inr ⟨rfl, rfl⟩) (OB.emptyMap m)
  exact OpRes.step t1 (.mp _ _ _ _ _ t2) (hrun m a w dst ty pos af gd hx)

/-! look-up -/
def lookRes (ok : Bool) (v : V) (b : Bool) (h : Store) : Rc := Bool.rec (.ok v h) (.ok (.tup (.cons v (.cons (.bool b) .nil))) h) ok
def isNilm (v : V) : Bool := (V.rec (motive := fun _ => Bool) (false) (false) (false) (false) (false) (true) (false) (false) (fun _ _ => false) (fun _ _ _ => false) (fun _ => false) (fun _ => false) (fun _ _ _ => false) (fun _ _ => false) (fun _ _ => false) (fun _ _ _ _ => false) (fun _ _ _ => false) (fun _ _ _ _ _ _ => false) (fun _ _ _ _ _ => false) (fun _ => false) (fun _ _ => false)) v
def lookupC (P : Program) (t : TypeId) (x ix : Operand) (ok : Bool) : OpC :=
  match P.underlying t with
  | some (.map kt et) => match kkOf P kt, P.info? et with
    | some kk, some i => match i.zero with
      | some z => ⟨fun _ ρ h => selfB kk (ρ ix) (Bool.rec (onMap (ρ x) h fun _ _ es => findGo kk (ρ ix) es 0 (fun _ v => lookRes ok v true h) (lookRes ok (ofVal z) false h)) (lookRes ok (ofVal z) false h) (isNilm (ρ x)))⟩
      | none => failC
    | _, _ => failC
  | _ => failC
theorem lookRes_ok {ok : Bool} {v : V} {b : Bool} {h : Store} {r : V} {h' : Store} (e : lookRes ok v b h = .ok r h') {m : Mp} {x : Value} (hx : VR m v x) : h' = h ∧ VR m r (if ok then .tuple #[x, .bool b] else x) := by
  cases ok with
  | false => cases e; exact ⟨rfl, hx⟩
  | true =>
    cases e
    refine ⟨rfl, .tup m _ _ rfl fun j hj => ?_⟩
    match j, hj with
    | 0, _ => exact hx
    | 1, _ => exact .bool _ _
theorem lookupC_sound (P : Program) (dst : Option Tmp) (t : TypeId) (x ix : Operand) (ok : Bool) (ty : TypeId) (pos : String) (af : Array Edge) (gd : Option (Nat × Bool)) : OpSound P ⟨dst, .lookup t x ix ok, ty, pos, af, gd⟩ (lookupC P t x ix ok) := by
  unfold lookupC
  split
  rotate_left
  · exact failC_sound _ _
  rename_i kt et hu
  split
  rotate_left
  · exact failC_sound _ _
  rename_i kk i hkk hi
  split
  rotate_left
  · exact failC_sound _ _
  rename_i z hz
  obtain ⟨kd, hkd⟩ := kk_underlying hkk
  intro call ρ h v h' e m w a hr hx
  obtain ⟨e1, hck, _⟩ := selfB_ok hkk (hx ix) (show selfB kk (ρ ix) _ = .ok v h' from e)
  have hzv : (zeroValue et).run P w = .ok z w := by simp [zeroValue, typeInfo, hi, hz]
  cases hn : isNilm (ρ x) with
  | true =>
    rw [hn] at e1
    have hxx := hx x
    generalize ρ x = vx at *
    generalize hax : a.eval x = zx at *
    cases hxx <;> first | cases hn | skip
    obtain ⟨rfl, hres⟩ := lookRes_ok (show lookRes ok (ofVal z) false h = .ok v h' from e1) (ofVal_ok m z)
    refine OpRes.same hr hres ?_
    cases ok <;> simp [execOp, Instr.lookup, run_underlying hu, hax, hck, Instr.findKey, run_underlying hkd, Instr.findNow, hzv]
  | false =>
    rw [hn] at e1
    obtain ⟨id, size, es, p, o, n, arr, _, h2, h3, h4, h5, h6, h7, h8, e2⟩ := onMap_ok (show onMap (ρ x) h _ = .ok v h' from e1) hr (hx x)
    have hget : (getObj p).run P w = .ok (.map arr size) w := MapKept.run_getObj_map h5
    rcases findGo_ok hkk (hx ix) es arr.toList 0 (by simp [h6, h7]) (fun j hj => by simpa using (h8 j (by simpa using hj)).key) e2 with ⟨j, hj, a1, a2, _⟩ | ⟨a1, a2⟩
    · have hj' : j < arr.size := by simpa using hj
      obtain ⟨rfl, hres⟩ := lookRes_ok a1 (h8 j hj').val
      refine OpRes.same hr hres ?_
      have hf := a2.run hkd w
      simp only [Nat.zero_add] at hf
      cases ok <;> simp [execOp, Instr.lookup, run_underlying hu, h2, hget, hck, hf]
    · obtain ⟨rfl, hres⟩ := lookRes_ok a1 (ofVal_ok m z)
      refine OpRes.same hr hres ?_
      have hf := a2.run hkd w
      cases ok <;> simp [execOp, Instr.lookup, run_underlying hu, h2, hget, hck, hf, hzv]

/-! writes -/
theorem EntR.modify {m : Mp} {es : V} {arr : Array MapEntry} (hl : vlen es = arr.size) (h : ∀ i (hi : i < arr.size), EntR m (vnth es i) arr[i] i) {j : Nat} (hj : j < arr.size) {f : MapEntry → MapEntry} {x : V} (hx : EntR m x (f arr[j]) j) :
    vlen (vset x es j) = (arr.modify j f).size ∧ ∀ i (hi : i < (arr.modify j f).size), EntR m (vnth (vset x es j) i) (arr.modify j f)[i] i := by
  refine ⟨by rw [vlen_set _ _ _ (by omega)]; simp [hl], fun i hi => ?_⟩
  have hi' : i < arr.size := by simpa using hi
  rw [vnth_set _ _ _ _ (by omega), Array.getElem_modify]
  by_cases q : j = i
  · subst q; simpa using hx
  · rw [if_neg q, if_neg q]; exact h i hi'
theorem EntR.push {m : Mp} {es : V} {arr : Array MapEntry} (hl : vlen es = arr.size) (h : ∀ i (hi : i < arr.size), EntR m (vnth es i) arr[i] i) {e : MapEntry} {x : V} (hx : EntR m x e arr.size) :
    vlen (vsnoc x es) = (arr.push e).size ∧ ∀ i (hi : i < (arr.push e).size), EntR m (vnth (vsnoc x es) i) (arr.push e)[i] i := by
  refine ⟨by rw [vlen_snoc]; simp [hl], fun i hi => ?_⟩
  rw [vnth_snoc, Array.getElem_push]
  by_cases q : i < arr.size
  · rw [if_neg (by omega), dif_pos q]; exact h i q
  · have : i = arr.size := by simp at hi; omega
    rw [if_pos (by omega), dif_neg q, this]; exact hx
theorem TR.setMap {m h w} (hr : HR m h w.heap) {id p o n size size' : Nat} {es es' : V} {arr arr' : Array MapEntry} (hg : h.get id = .map size es) (hi : m.io id 0 = some (p, o, n)) (hp : w.heap[p]? = some (.map arr size)) (hs : arr'.size = size') (hl : vlen es' = size')
    (he : ∀ i (h : i < arr'.size), EntR m (vnth es' i) arr'[i] i) : TR m h w m (h.put id (.map size' es')) { w with heap := w.heap.setIfInBounds p (.map arr' size') } :=
  TR.setOb hr (.inr ⟨rfl, by rw [hg]; rfl⟩) hi (.inr ⟨rfl, rfl⟩) rfl rfl rfl rfl (.map _ _ _ _ _ hs hl he) fun g s z e q => by rw [hg] at q; cases q
theorem keyStays {P : Program} {k : Value} (h : ∀ n, Instr.sameBits (n + 1) k k = true) (w : World) : (Instr.keyThatStays k k).run P w = .ok k w := by
  simp [Instr.keyThatStays, h 9999]
def mapUpdateC (P : Program) (t : TypeId) (x k y : Operand) : OpC :=
  match P.underlying t with
  | some (.map kt _) => match kkOf P kt with
    | some kk => ⟨fun _ ρ h => selfB kk (ρ k) (onMap (ρ x) h fun id size es => findGo kk (ρ k) es 0 (fun i _ => .ok .undef (h.put id (.map size (vset (mkEnt (pk (vnth es i)) (ρ y)) es i)))) (.ok .undef (h.put id (.map (Nat.succ size) (vsnoc (mkEnt (ρ k) (ρ y)) es)))))⟩
    | none => failC
  | _ => failC
theorem mapUpdateC_run {P : Program} {t : TypeId} {x k y : Operand} {call : Nat → V → Store → Rc} {ρ : Operand → V} {h h' : Store} {v : V} (e : (mapUpdateC P t x k y).run call ρ h = .ok v h') {m : Mp} {w : World} {a : Act} (hr : HR m h w.heap) (hx : ∀ x, VR m (ρ x) (a.eval x)) :
    v = .undef ∧ ∃ w', (Instr.mapUpdate t (a.eval x) (a.eval k) (a.eval y)).run P w = .ok () w' ∧ TR m h w m h' w' := by
  unfold mapUpdateC at e
  split at e
  rotate_left
  · cases e
  rename_i kt et hu
  split at e
  rotate_left
  · cases e
  rename_i kk hkk
  obtain ⟨kd, hkd⟩ := kk_underlying hkk
  obtain ⟨e1, hck, hbits⟩ := selfB_ok hkk (hx k) (show selfB kk (ρ k) _ = .ok v h' from e)
  obtain ⟨id, size, es, p, o, n, arr, _, h2, h3, h4, h5, h6, h7, h8, e2⟩ := onMap_ok e1 hr (hx x)
  have hget : (getObj p).run P w = .ok (.map arr size) w := MapKept.run_getObj_map h5
  subst h6
  rcases findGo_ok hkk (hx k) es arr.toList 0 (by simp [h7]) (fun j hj => by simpa using (h8 j (by simpa using hj)).key) e2 with ⟨j, hj, a1, a2, a3, _⟩ | ⟨a1, a2⟩
  · have hj' : j < arr.size := by simpa using hj
    rw [Nat.zero_add] at a1
    cases a1
    have hf := a2.run hkd w
    have a3 : a.eval k = arr[j].key := by simpa using a3
    refine ⟨rfl, _, ?_, TR.setMap hr h3 h4 h5 (arr' := arr.modify j fun e => { e with key := a.eval k, val := a.eval y }) (by simp) ?_ ?_⟩
    · simp only [Nat.zero_add] at hf
      simp [Instr.mapUpdate, run_underlying hu, h2, hget, hck, hf, hj', ← a3, keyStays hbits, MapKept.run_setObj_map _ h5]
    · have := (EntR.modify h7 h8 hj' (f := fun e => { e with key := a.eval k, val := a.eval y }) (x := mkEnt (pk (vnth es j)) (ρ y)) ⟨by rw [a3]; exact (h8 j hj').key, hx y, (h8 j hj').born⟩).1
      rw [this]; simp
    · exact (EntR.modify h7 h8 hj' (f := fun e => { e with key := a.eval k, val := a.eval y }) (x := mkEnt (pk (vnth es j)) (ρ y)) ⟨by rw [a3]; exact (h8 j hj').key, hx y, (h8 j hj').born⟩).2
  · cases a1
    have hf := a2.run hkd w
    have key := EntR.push h7 h8 (e := { key := a.eval k, val := a.eval y, born := arr.size }) (x := mkEnt (ρ k) (ρ y)) ⟨hx k, hx y, rfl⟩
    refine ⟨rfl, _, ?_, TR.setMap hr h3 h4 h5 (arr' := arr.push { key := a.eval k, val := a.eval y, born := arr.size }) (by simp) (by rw [key.1]; simp) key.2⟩
    simp [Instr.mapUpdate, run_underlying hu, h2, hget, hck, hf, MapKept.run_setObj_map _ h5]
theorem mapUpdateC_sound (P : Program) (dst : Option Tmp) (t : TypeId) (x k y : Operand) (ty : TypeId) (pos : String) (af : Array Edge) (gd : Option (Nat × Bool)) : OpSound P ⟨dst, .mapUpdate t x k y, ty, pos, af, gd⟩ (mapUpdateC P t x k y) := by
  intro call ρ h v h' e m w a hr hx
  obtain ⟨rfl, w', hrun, ht⟩ := mapUpdateC_run e hr hx
  exact ⟨m, w', .skip, _, by simp [execOp, hrun], .inr ⟨rfl, rfl⟩, .undef _, ht⟩
theorem insertC_sound (P : Program) (dst : Option Tmp) (t : TypeId) (x k y : Operand) (ty : TypeId) (pos : String) (af : Array Edge) (gd : Option (Nat × Bool)) : OpSound P ⟨dst, .insert t x k y, ty, pos, af, gd⟩ (mapUpdateC P t x k y) := by
  intro call ρ h v h' e m w a hr hx
  obtain ⟨rfl, w', hrun, ht⟩ := mapUpdateC_run e hr hx
  exact ⟨m, w', .skip, _, by simp [execOp, hrun], .inr ⟨rfl, rfl⟩, .undef _, ht⟩

/-- m[k] op= v: the entry, then the store -/
def entTup (v : V) (i : Nat) : V := .tup (.cons v (.cons (.int .i64 i) .nil))
def mapEntryC (P : Program) (t : TypeId) (x k : Operand) : OpC :=
  match P.underlying t with
  | some (.map kt et) => match kkOf P kt, P.info? et with
    | some kk, some i => match i.zero with
      | some z => ⟨fun _ ρ h => selfB kk (ρ k) (onMap (ρ x) h fun id size es => ifB (Nat.blt size 9223372036854775808) (findGo kk (ρ k) es 0 (fun i v => .ok (entTup v i) h) (.ok (entTup (ofVal z) size) (h.put id (.map (Nat.succ size) (vsnoc (mkEnt (ρ k) (ofVal z)) es))))))⟩
      | none => failC
    | _, _ => failC
  | _ => failC
theorem entTup_ok {m : Mp} {v : V} {x : Value} (hx : VR m v x) (i : Nat) (hi : i < 9223372036854775808) : VR m (entTup v i) (.tuple #[x, goInt (i : Int)]) := by
  refine .tup m _ _ rfl fun j hj => ?_
  match j, hj with
  | 0, _ => exact hx
  | 1, _ => exact goInt_ok m i hi
theorem modify_same (arr : Array MapEntry) (j : Nat) (f : MapEntry → MapEntry) (h : ∀ hj : j < arr.size, f arr[j] = arr[j]) : arr.modify j f = arr := by
  apply Array.ext
  · simp
  · intro i h1 h2
    rw [Array.getElem_modify]
    split
    · rename_i q; subst q; exact h h2
    · rfl
theorem heap_same {w : World} {p : Nat} {x : Obj} (h : w.heap[p]? = some x) : { w with heap := w.heap.setIfInBounds p x } = w := by
  have : w.heap.setIfInBounds p x = w.heap := by
    have hlt := (Array.getElem?_eq_some_iff.1 h).1
    have hv := (Array.getElem?_eq_some_iff.1 h).2
    apply Array.ext
    · simp
    · intro i h1 h2
      rw [Array.getElem_setIfInBounds h2]
      split
      · rename_i q; subst q; exact hv.symm
      · rfl
  rw [this]
theorem mapEntryC_sound (P : Program) (dst : Option Tmp) (t : TypeId) (x k : Operand) (ty : TypeId) (pos : String) (af : Array Edge) (gd : Option (Nat × Bool)) : OpSound P ⟨dst, .mapEntry t x k, ty, pos, af, gd⟩ (mapEntryC P t x k) := by
  unfold mapEntryC
  split
  rotate_left
  · exact failC_sound _ _
  rename_i kt et hu
  split
  rotate_left
  · exact failC_sound _ _
  rename_i kk i hkk hi
  split
  rotate_left
  · exact failC_sound _ _
  rename_i z hz
  obtain ⟨kd, hkd⟩ := kk_underlying hkk
  intro call ρ h v h' e m w a hr hx
  obtain ⟨e1, hck, hbits⟩ := selfB_ok hkk (hx k) (show selfB kk (ρ k) _ = .ok v h' from e)
  have hzv : (zeroValue et).run P w = .ok z w := by simp [zeroValue, typeInfo, hi, hz]
  obtain ⟨id, size, es, p, o, n, arr, _, h2, h3, h4, h5, h6, h7, h8, e2⟩ := onMap_ok e1 hr (hx x)
  have hget : (getObj p).run P w = .ok (.map arr size) w := MapKept.run_getObj_map h5
  subst h6
  obtain ⟨hb, e3⟩ := ifB_ok e2
  have hb : arr.size < 9223372036854775808 := by simpa using hb
  rcases findGo_ok hkk (hx k) es arr.toList 0 (by simp [h7]) (fun j hj => by simpa using (h8 j (by simpa using hj)).key) e3 with ⟨j, hj, a1, a2, a3, _⟩ | ⟨a1, a2⟩
  · have hj' : j < arr.size := by simpa using hj
    rw [Nat.zero_add] at a1
    cases a1
    have hf := a2.run hkd w
    have a3 : a.eval k = arr[j].key := by simpa using a3
    refine OpRes.same hr (entTup_ok (h8 j hj').val j (by omega)) ?_
    have hm : arr.modify j (fun e => { e with key := a.eval k }) = arr := modify_same _ _ _ fun hj => by rw [a3]
    simp only [Nat.zero_add] at hf
    have hbn := (h8 j hj').born
    simp [execOp, Instr.mapEntry, run_underlying hu, h2, hget, hck, hf, hj', ← a3, keyStays hbits, hm, MapKept.run_setObj_map _ h5, heap_same h5, hbn]
  · cases a1
    have hf := a2.run hkd w
    have key := EntR.push h7 h8 (e := { key := a.eval k, val := z, born := arr.size }) (x := mkEnt (ρ k) (ofVal z)) ⟨hx k, ofVal_ok m z, rfl⟩
    refine OpRes.step (TR.setMap hr h3 h4 h5 (arr' := arr.push { key := a.eval k, val := z, born := arr.size }) (by simp) (by rw [key.1]; simp) key.2) (entTup_ok (ofVal_ok m z) arr.size hb) ?_
    simp [execOp, Instr.mapEntry, run_underlying hu, h2, hget, hck, hf, hzv, MapKept.run_setObj_map _ h5]
def entryStoreC (x s y : Operand) : OpC :=
  ⟨fun _ ρ h => onMap (ρ x) h fun id size es => onIdx (ρ s) fun i => ifB (Nat.blt i size) (.ok .undef (h.put id (.map size (vset (mkEnt (pk (vnth es i)) (ρ y)) es i))))⟩
theorem entryStoreC_sound (P : Program) (dst : Option Tmp) (t : TypeId) (x s y : Operand) (ty : TypeId) (pos : String) (af : Array Edge) (gd : Option (Nat × Bool)) : OpSound P ⟨dst, .entryStore t x s y, ty, pos, af, gd⟩ (entryStoreC x s y) := by
  intro call ρ h v h' e m w a hr hx
  obtain ⟨id, size, es, p, o, n, arr, _, h2, h3, h4, h5, h6, h7, h8, e2⟩ := onMap_ok (show onMap (ρ x) h _ = .ok v h' from e) hr (hx x)
  have hget : (getObj p).run P w = .ok (.map arr size) w := MapKept.run_getObj_map h5
  subst h6
  obtain ⟨j, _, hs, hjb, e3⟩ := onIdx_ok e2 (hx s)
  obtain ⟨hb, e4⟩ := ifB_ok e3
  have hj : j < arr.size := by simpa using hb
  cases e4
  have key := EntR.modify h7 h8 hj (f := fun e => { e with val := a.eval y }) (x := mkEnt (pk (vnth es j)) (ρ y)) ⟨(h8 j hj).key, hx y, (h8 j hj).born⟩
  have hfind : arr.findIdx? (fun e => (e.born : Int) == (j : Int)) = some j := by
    rw [Array.findIdx?_eq_some_iff_getElem]
    refine ⟨hj, by rw [(h8 j hj).born]; simp, fun i hi => ?_⟩
    rw [(h8 i (by omega)).born]; simp; omega
  refine ⟨m, _, .skip, _, ?_, .inr ⟨rfl, rfl⟩, .undef _, TR.setMap hr h3 h4 h5 (arr' := arr.modify j fun e => { e with val := a.eval y }) (by simp) (by rw [key.1]; simp) key.2⟩
  simp [execOp, Instr.entryStore, h2, hget, hs, asInt, asIntOf, hfind, MapKept.run_setObj_map _ h5]

/-! a map's length -/
def lenMap (v : V) (h : Store) : Rc := Bool.rec (onMap v h fun _ size _ => ifB (Nat.blt size 9223372036854775808) (.ok (.int .i64 size) h)) (.ok (.int .i64 0) h) (isNilm v)
def lenMC (P : Program) (t : TypeId) (x : Operand) : OpC :=
  match P.underlying t with
  | some (.map _ _) => ⟨fun _ ρ h => lenMap (ρ x) h⟩
  | _ => lenC P t x
theorem lenMC_sound (P : Program) (dst : Option Tmp) (t : TypeId) (x : Operand) (ats : Array TypeId) (hat : ats[0]? = some t) (ty : TypeId) (pos : String) (af : Array Edge) (gd : Option (Nat × Bool)) :
    OpSound P ⟨dst, .call ⟨.builtin .len, #[x], ats⟩, ty, pos, af, gd⟩ (lenMC P t x) := by
  unfold lenMC
  split
  rotate_left
  · exact lenC_sound P dst t x ats hat ty pos af gd
  rename_i kt et hu
  intro call ρ h v h' e m w a hr hx
  have e : lenMap (ρ x) h = .ok v h' := e
  unfold lenMap at e
  cases hn : isNilm (ρ x) with
  | true =>
    rw [hn] at e
    have hxx := hx x
    generalize ρ x = vx at *
    generalize hax : a.eval x = zx at *
    cases hxx <;> first | cases hn | skip
    cases e
    exact OpRes.same hr (goInt_ok m 0 (by omega)) (run_builtin_call (by simp [builtin, Builtin.len_, hat, run_underlying hu, hax]))
  | false =>
    rw [hn] at e
    obtain ⟨id, size, es, p, o, n, arr, _, h2, h3, h4, h5, h6, h7, h8, e2⟩ := onMap_ok (show onMap (ρ x) h _ = .ok v h' from e) hr (hx x)
    have hget : (getObj p).run P w = .ok (.map arr size) w := MapKept.run_getObj_map h5
    obtain ⟨hb, e3⟩ := ifB_ok e2
    cases e3
    exact OpRes.same hr (goInt_ok m size (by simpa using hb)) (run_builtin_call (by simp [builtin, Builtin.len_, hat, run_underlying hu, h2, hget, h6]))

/-! iterators -/
def rangeC (P : Program) (t : TypeId) (x : Operand) : OpC :=
  match P.underlying t with
  | some (.map _ _) => ⟨fun _ ρ h => onMap (ρ x) h fun id size _ => .ok (.itr h.next) (h.push (.itr id size 0 0))⟩
  | _ => failC
theorem rangeC_sound (P : Program) (dst : Option Tmp) (t : TypeId) (x : Operand) (ty : TypeId) (pos : String) (af : Array Edge) (gd : Option (Nat × Bool)) : OpSound P ⟨dst, .range t x, ty, pos, af, gd⟩ (rangeC P t x) := by
  unfold rangeC
  split
  rotate_left
  · exact failC_sound _ _
  rename_i kt et hu
  intro call ρ h v h' e m w a hr hx
  obtain ⟨id, size, es, p, o, n, arr, _, h2, h3, h4, h5, h6, h7, h8, e2⟩ := onMap_ok (show onMap (ρ x) h _ = .ok v h' from e) hr (hx x)
  have hget : (getObj p).run P w = .ok (.map arr size) w := MapKept.run_getObj_map h5
  cases e2
  obtain ⟨m', t1, _, t2⟩ := TR.newOb hr (ob := .itr id size 0 0) (.inr ⟨rfl, rfl⟩) (x := .mapIter (some p) size #[] size) (n := 0) (.itr _ _ _ _ _ _ _ _ _ _ _ h4 (fun i _ => by simp) (fun i hi => by simp at hi) (.inl rfl))
  refine OpRes.step t1 (x := .pointer (some ⟨w.heap.size, 0, none⟩)) (.itr _ _ _ _ _ t2) ?_
  simp [execOp, Instr.range, run_underlying hu, h2, hget]

/-- the entries that an iterator has not come to -/
def unseen (mask : Nat) (n : Nat) : List Nat := Nat.rec (motive := fun _ => List Nat) [] (fun j ih => Bool.rec (j :: ih) ih (Nat.testBit mask j)) n
theorem mem_unseen (mask n i : Nat) : i ∈ unseen mask n ↔ i < n ∧ Nat.testBit mask i = false := by
  induction n with
  | zero => exact ⟨fun q => absurd (show i ∈ ([] : List Nat) from q) (List.not_mem_nil), fun q => absurd q.1 (Nat.not_lt_zero _)⟩
  | succ n ih =>
    have e : unseen mask (n + 1) = Bool.rec (motive := fun _ => List Nat) (n :: unseen mask n) (unseen mask n) (Nat.testBit mask n) := rfl
    rw [e]
    cases hb : Nat.testBit mask n with
    | true =>
      show i ∈ unseen mask n ↔ _
      rw [ih]
      constructor
      · rintro ⟨h1, h2⟩; exact ⟨by omega, h2⟩
      · rintro ⟨h1, h2⟩
        refine ⟨?_, h2⟩
        rcases Nat.lt_succ_iff_lt_or_eq.1 h1 with h | h
        · exact h
        · subst h; rw [hb] at h2; cases h2
    | false =>
      show i ∈ n :: unseen mask n ↔ _
      rw [List.mem_cons, ih]
      constructor
      · rintro (rfl | ⟨h1, h2⟩)
        · exact ⟨by omega, hb⟩
        · exact ⟨by omega, h2⟩
      · rintro ⟨h1, h2⟩
        rcases Nat.lt_succ_iff_lt_or_eq.1 h1 with h | h
        · exact .inr ⟨h, h2⟩
        · exact .inl h
def overV : V := .tup (.cons (.bool false) .nil)
def itemV (e : V) : V := .tup (.cons (.bool true) (.cons (pk e) (.cons (pv e) .nil)))
def onItOb (k : Nat → Nat → Nat → Option (List (V × Store))) (ob : Ob) : Option (List (V × Store)) := (Ob.rec (motive := fun _ => Option (List (V × Store))) (none) (fun _ _ _ _ => none) (fun _ _ _ _ => none) (fun _ _ => none) (fun id since mask _ => k id since mask)) ob
def onMpOb (k : Nat → V → Option (List (V × Store))) (ob : Ob) : Option (List (V × Store)) := (Ob.rec (motive := fun _ => Option (List (V × Store))) (none) (fun _ _ _ _ => none) (fun _ _ _ _ => none) (fun size es => k size es) (fun _ _ _ _ => none)) ob
/-- what a step of an iterator may come to -/
def nextL (v : V) (h : Store) : Option (List (V × Store)) :=
  (V.rec (motive := fun _ => Option (List (V × Store))) (none) (none) (none) (none) (none) (none) (none) (none) (fun _ _ => none) (fun _ _ _ => none) (fun id => onItOb (fun mid since mask => onMpOb (fun size es => Bool.rec none
      (some (match unseen mask since with
        | [] => [(overV, h)]
        | l => l.map fun i => (itemV (vnth es i), h.put id (.itr mid since (Nat.lor mask (Nat.pow 2 i)) i)))) (Nat.beq size since)) (h.get mid)) (h.get id)) (fun _ => none) (fun _ _ _ => none) (fun _ _ => none) (fun _ _ => none) (fun _ _ _ _ => none) (fun _ _ _ => none) (fun _ _ _ _ _ _ => none) (fun _ _ _ _ _ => none) (fun _ => none) (fun _ _ => none)) v

theorem nextL_ok {P : Program} {v : V} {h : Store} {l : List (V × Store)} (e : nextL v h = some l) {m : Mp} {w : World} {x : Value} (hr : HR m h w.heap) (hx : VR m v x) (ty : TypeId) :
    ∃ r h' y w', (r, h') ∈ l ∧ (Instr.next x false ty).run P w = .ok y w' ∧ VR m r y ∧ TR m h w m h' w' := by
  cases hx with
  | itr _ id p o n hio =>
    have e : onItOb _ (h.get id) = some l := e
    cases hob : h.get id with
    | itr mid since mask lastv =>
      rw [hob] at e
      have e : onMpOb _ (h.get mid) = some l := e
      cases hmb : h.get mid with
      | map size es =>
        rw [hmb] at e
        have e : (Bool.rec none (some (match unseen mask since with
          | [] => [(overV, h)]
          | l => l.map fun i => (itemV (vnth es i), h.put id (.itr mid since (Nat.lor mask (Nat.pow 2 i)) i)))) (Nat.beq size since) : Option (List (V × Store))) = some l := e
        cases hbq : Nat.beq size since with
        | false => rw [hbq] at e; cases e
        | true =>
          rw [hbq] at e
          have hbq := Nat.eq_of_beq_eq_true hbq
          subst hbq
          have e : some (match unseen mask size with
            | [] => [(overV, h)]
            | l => l.map fun i => (itemV (vnth es i), h.put id (.itr mid size (Nat.lor mask (Nat.pow 2 i)) i))) = some l := e
          have e := Option.some.inj e
          obtain ⟨x1, hp1, ho1⟩ := hr.blk id 0 p o n (.inr ⟨rfl, by rw [hob]; rfl⟩) hio
          rw [hob] at ho1
          cases ho1 with
          | itr _ _ _ _ _ _ q o' n' last seen g1 g2 g3 g4 =>
            obtain ⟨x2, hp2, ho2⟩ := hr.blk mid 0 q o' n' (.inr ⟨rfl, by rw [hmb]; rfl⟩) g1
            rw [hmb] at ho2
            cases ho2 with
            | map _ _ _ _ arr f1 f2 f3 =>
              have get1 : (getObj p).run P w = .ok (.mapIter (some q) size seen last) w := by simp [getObj, Sem.run, hp1]
              have get2 : (getObj q).run P w = .ok (.map arr size) w := MapKept.run_getObj_map hp2
              have hgone : (!seen.isEmpty && !arr.isEmpty && arr.all (·.born ≥ last)) = false := by
                rcases g4 with rfl | ⟨g4a, g4b, _⟩
                · simp
                · by_cases h0 : arr.size = 0
                  · have : arr = #[] := Array.size_eq_zero_iff.1 h0
                    subst this; simp
                  · have hb0 := (f3 0 (by omega)).born
                    have : arr.all (·.born ≥ last) = false := by
                      rw [Array.all_eq_false]
                      exact ⟨0, by omega, by rw [hb0]; simp; omega⟩
                    simp [this]
              let left := arr.filter fun e => !seen.contains e.born
              have hleft : ∀ e, e ∈ left ↔ ∃ i, ∃ hi : i < arr.size, e = arr[i] ∧ i ∈ unseen mask size := by
                intro e
                simp only [left, Array.mem_filter]
                constructor
                · rintro ⟨h1, h2⟩
                  obtain ⟨i, hi, rfl⟩ := Array.mem_iff_getElem.1 h1
                  refine ⟨i, hi, rfl, (mem_unseen _ _ _).2 ⟨by omega, ?_⟩⟩
                  rw [(f3 i hi).born] at h2
                  cases hb : Nat.testBit mask i with
                  | false => rfl
                  | true =>
                    have := (g2 i (by omega)).1 hb
                    simp [this] at h2
                · rintro ⟨i, hi, rfl, h2⟩
                  refine ⟨Array.getElem_mem hi, ?_⟩
                  rw [(f3 i hi).born]
                  have := ((mem_unseen _ _ _).1 h2).2
                  have hns : ¬ i ∈ seen := fun q => by have q2 := (g2 i (by omega)).2 q; rw [this] at q2; cases q2
                  simp [hns]
              have hold : left.filter (fun e => e.born < size) = left := by
                rw [Array.filter_eq_self]
                intro e he
                obtain ⟨i, hi, rfl, _⟩ := (hleft e).1 he
                rw [(f3 i hi).born]; simp; omega
              have hnew : left.filter (fun e => e.born ≥ size) = #[] := by
                rw [Array.filter_eq_empty_iff]
                intro e he
                obtain ⟨i, hi, rfl, _⟩ := (hleft e).1 he
                rw [(f3 i hi).born]; simp; omega
              by_cases hemp : unseen mask size = []
              · have hl0 : left = #[] := by
                  apply Array.eq_empty_of_size_eq_zero
                  rcases Nat.eq_zero_or_pos left.size with h0 | h0
                  · exact h0
                  · obtain ⟨i, _, _, h2⟩ := (hleft left[0]).1 (Array.getElem_mem h0)
                    rw [hemp] at h2; simp at h2
                rw [hemp] at e
                subst e
                refine ⟨overV, h, .tuple #[.bool false], w, by simp, ?_, ?_, .refl hr⟩
                · unfold Instr.next
                  simp only [Sem.run_bind, get1, Result.andThen_ok, get2, hgone, Bool.false_eq_true, if_false]
                  rw [show (Array.filter (fun e => !seen.contains e.born) arr) = #[] from hl0]
                  simp [Question.forced]
                · refine .tup m _ _ rfl fun j hj => ?_
                  match j, hj with
                  | 0, _ => exact .bool _ _
              · have e : (unseen mask size).map (fun i => (itemV (vnth es i), h.put id (.itr mid size (Nat.lor mask (Nat.pow 2 i)) i))) = l := by
                  rw [← e]
                  split
                  · rename_i q; exact absurd q hemp
                  · rfl
                have hl0 : 0 < left.size := by
                  obtain ⟨i, hi⟩ := List.exists_mem_of_ne_nil _ hemp
                  have h1 := (mem_unseen _ _ _).1 hi
                  have : arr[i]'(by omega) ∈ left := (hleft _).2 ⟨i, by omega, rfl, hi⟩
                  exact Array.size_pos_of_mem this
                have step : ∀ (k : Nat) (hk : k < left.size) (w1 : World), w1.heap = w.heap → w1.os = w.os → w1.output = w.output → w1.tape = w.tape →
                    ∃ r h' w', (r, h') ∈ l ∧ (setObj p (.mapIter (some q) size (seen.push left[k].born) size)).run P w1 = .ok () w' ∧ VR m r (.tuple #[.bool true, left[k].key, left[k].val]) ∧ TR m h w m h' w' := by
                  intro k hk w1 e1 e2 e3 e4
                  obtain ⟨i, hi, hle, hiu⟩ := (hleft left[k]).1 (Array.getElem_mem hk)
                  have hiu' := (mem_unseen _ _ _).1 hiu
                  refine ⟨itemV (vnth es i), h.put id (.itr mid size (Nat.lor mask (Nat.pow 2 i)) i), { w1 with heap := w1.heap.setIfInBounds p (.mapIter (some q) size (seen.push left[k].born) size) }, ?_, ?_, ?_, ?_⟩
                  · rw [← e]; exact List.mem_map.2 ⟨i, hiu, rfl⟩
                  · simp [setObj, Sem.run, e1, hp1]
                  · rw [hle]
                    refine .tup m _ _ rfl fun j hj => ?_
                    match j, hj with
                    | 0, _ => exact .bool _ _
                    | 1, _ => exact (f3 i hi).key
                    | 2, _ => exact (f3 i hi).val
                  · refine TR.setOb hr (id := id) (gen := 0) (.inr ⟨rfl, by rw [hob]; rfl⟩) hio (.inr ⟨rfl, rfl⟩) (by show _ = _; rw [e1]) e2 e3 e4 (.itr _ _ _ _ _ _ _ _ _ _ _ g1 (fun j hj => ?_) (fun j hj => ?_) (.inr ⟨rfl, by omega, by rw [hle, (f3 i hi).born]; simp⟩)) fun g s z e q => by rw [hob] at q; cases q
                    · have : Nat.testBit (Nat.lor mask (Nat.pow 2 i)) j = (Nat.testBit mask j || decide (i = j)) := by
                        rw [show Nat.lor mask (Nat.pow 2 i) = mask ||| 2 ^ i from rfl, Nat.testBit_or, Nat.testBit_two_pow]
                      rw [this, hle, (f3 i hi).born]
                      simp only [Bool.or_eq_true, decide_eq_true_eq, Array.mem_push]
                      rw [g2 j hj]
                      exact or_congr Iff.rfl ⟨Eq.symm, Eq.symm⟩
                    · rw [hle, (f3 i hi).born] at hj
                      rcases Array.mem_push.1 hj with hj | hj
                      · exact g3 j hj
                      · omega
                have hne : left.isEmpty = false := by
                  rw [Array.isEmpty_eq_false_iff]; intro q; rw [q] at hl0; simp at hl0
                -- the draw
                obtain ⟨k, hk, w1, hch, e1, e2, e3, e4⟩ : ∃ k, k < left.size ∧ ∃ w1, (choose (.mapNext left.size)).run P w = .ok k w1 ∧ w1.heap = w.heap ∧ w1.os = w.os ∧ w1.output = w.output ∧ w1.tape = w.tape := by
                  rw [run_choose]
                  by_cases hfc : Question.forced (.mapNext left.size) = true
                  · rw [if_pos hfc]; exact ⟨0, hl0, w, rfl, rfl, rfl, rfl, rfl⟩
                  · rw [if_neg hfc]; exact ⟨_, Nat.mod_lt _ hl0, _, rfl, rfl, rfl, rfl, rfl⟩
                obtain ⟨r, h', w', a1, a2, a3, a4⟩ := step k hk w1 e1 e2 e3 e4
                refine ⟨r, h', _, w', a1, ?_, a3, a4⟩
                unfold Instr.next
                simp only [Sem.run_bind, get1, Result.andThen_ok, get2, hgone, Bool.false_eq_true, if_false]
                have hl : Array.filter (fun e => !seen.contains e.born) arr = left := rfl
                rw [hl, hold, hnew]
                simp only [hne, Bool.false_eq_true, if_false, Array.empty_append, Array.append_empty, Array.size_map, hch, Result.andThen_ok]
                have hgk : (left.map some)[k]? = some (some left[k]) := by simp [hk]
                rw [hgk]
                simp only [Sem.run_bind, a2, Result.andThen_ok, Sem.run_pure]
      | _ => rw [hmb] at e; cases e
    | _ => rw [hob] at e; cases e
  | _ => cases e

/-- the entry that an iterator has come to -/
def onItOb3 (k : Nat → Nat → Nat → Nat → Rc) (ob : Ob) : Rc := (Ob.rec (motive := fun _ => Rc) (Rc.fail) (fun _ _ _ _ => Rc.fail) (fun _ _ _ _ => Rc.fail) (fun _ _ => Rc.fail) (fun id since mask last => k id since mask last)) ob
def entryV (v : V) (h : Store) : Rc :=
  (V.rec (motive := fun _ => Rc) (Rc.fail) (Rc.fail) (Rc.fail) (Rc.fail) (Rc.fail) (Rc.fail) (Rc.fail) (Rc.fail) (fun _ _ => Rc.fail) (fun _ _ _ => Rc.fail) (fun id => onItOb3 (fun mid since mask last => onMapOb (fun size es => ifB (bothB (Nat.beq size since) (bothB (Nat.blt last since) (Nat.testBit mask last)))
      (.ok (.tup (.cons (pk (vnth es last)) (.cons (pv (vnth es last)) .nil))) h)) (h.get mid)) (h.get id)) (fun _ => Rc.fail) (fun _ _ _ => Rc.fail) (fun _ _ => Rc.fail) (fun _ _ => Rc.fail) (fun _ _ _ _ => Rc.fail) (fun _ _ _ => Rc.fail) (fun _ _ _ _ _ _ => Rc.fail) (fun _ _ _ _ _ => Rc.fail) (fun _ => Rc.fail) (fun _ _ => Rc.fail)) v
def entryC (x : Operand) : OpC := ⟨fun _ ρ h => entryV (ρ x) h⟩
theorem entryC_sound (P : Program) (dst : Option Tmp) (x : Operand) (ty : TypeId) (pos : String) (af : Array Edge) (gd : Option (Nat × Bool)) : OpSound P ⟨dst, .entry x, ty, pos, af, gd⟩ (entryC x) := by
  intro call ρ h v h' e m w a hr hx
  have e : entryV (ρ x) h = .ok v h' := e
  have hxx := hx x
  generalize ρ x = vx at *
  generalize hax : a.eval x = zx at *
  cases hxx with
  | itr _ id p o n hio =>
    have e : onItOb3 _ (h.get id) = .ok v h' := e
    cases hob : h.get id with
    | itr mid since mask last =>
      rw [hob] at e
      have e : onMapOb _ (h.get mid) = .ok v h' := e
      cases hmb : h.get mid with
      | map size es =>
        rw [hmb] at e
        obtain ⟨hb, e2⟩ := ifB_ok (b := bothB (Nat.beq size since) (bothB (Nat.blt last since) (Nat.testBit mask last))) (k := .ok (.tup (.cons (pk (vnth es last)) (.cons (pv (vnth es last)) .nil))) h) e
        cases e2
        rw [bothB_eq, bothB_eq, Bool.and_eq_true, Bool.and_eq_true] at hb
        obtain ⟨b1, b2, b3⟩ := hb
        obtain rfl := Nat.eq_of_beq_eq_true b1
        have b2 : last < size := by simpa using b2
        obtain ⟨x1, hp1, ho1⟩ := hr.blk id 0 p o n (.inr ⟨rfl, by rw [hob]; rfl⟩) hio
        rw [hob] at ho1
        cases ho1 with
        | itr _ _ _ _ _ _ q o' n' st seen g1 g2 g3 g4 =>
          obtain ⟨x2, hp2, ho2⟩ := hr.blk mid 0 q o' n' (.inr ⟨rfl, by rw [hmb]; rfl⟩) g1
          rw [hmb] at ho2
          cases ho2 with
          | map _ _ _ _ arr f1 f2 f3 =>
            have hin := (g2 last b2).1 b3
            rcases g4 with rfl | ⟨g4a, _, g4c⟩
            · simp at hin
            have hl : last < arr.size := by omega
            have get1 : (getObj p).run P w = .ok (.mapIter (some q) size seen st) w := by simp [getObj, Sem.run, hp1]
            have get2 : (getObj q).run P w = .ok (.map arr size) w := MapKept.run_getObj_map hp2
            have hfind : arr.find? (fun e => e.born == last) = some arr[last] := by
              rw [Array.find?_eq_some_iff_getElem]
              refine ⟨by rw [(f3 last hl).born]; simp, last, hl, rfl, fun j hj => ?_⟩
              rw [(f3 j (by omega)).born]; simp; omega
            refine OpRes.same hr (x := .tuple #[arr[last].key, arr[last].val]) (.tup m _ _ rfl fun j hj => ?_) ?_
            · match j, hj with
              | 0, _ => exact (f3 last hl).key
              | 1, _ => exact (f3 last hl).val
            · simp [execOp, Instr.entry, hax, get1, get2, g4c, g4a, hfind]
      | _ => rw [hmb] at e; cases e
    | _ => rw [hob] at e; cases e
  | _ => cases e

end
end Go.Proofs.Ytglhpnieiphahaa.D
