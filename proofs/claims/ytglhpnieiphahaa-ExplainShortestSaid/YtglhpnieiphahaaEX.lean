/- The engine's operations, part eleven: values in interfaces; what sort.Slice asks of the runtime (ValueOf, Swapper, Len). -/
import Derived.Test.YtglhpnieiphahaaEW
import Derived.Laws.Externs
import Derived.Lib.ReflectliteSlice
import Derived.KernelRfl
set_option autoImplicit false
set_option linter.unusedSimpArgs false
set_option linter.unusedVariables false
namespace Go.Proofs.Ytglhpnieiphahaa.D
open Go
noncomputable section

def makeIfcC (P : Program) (t : TypeId) (x : Operand) : OpC :=
  match P.underlying t with
  | some (.interface _) => failC
  | some _ => ⟨fun _ ρ h => .ok (.ifc t (ρ x)) h⟩
  | none => failC
theorem makeIfcC_sound (P : Program) (dst : Option Tmp) (t : TypeId) (x : Operand) (ty : TypeId) (pos : String) (af : Array Edge) (gd : Option (Nat × Bool)) : OpSound P ⟨dst, .makeInterface t x, ty, pos, af, gd⟩ (makeIfcC P t x) := by
  unfold makeIfcC
  split
  · exact failC_sound _ _
  · rename_i d hne hu
    intro call ρ h v h' e m w a hr hx
    cases e
    refine OpRes.same hr (.ifc m m t _ _ rfl (hx x)) ?_
    simp only [execOp, Instr.makeInterface, Sem.run_bind, run_underlying hu, Result.andThen_ok]
    cases d <;> first | exact absurd rfl (hne _) | simp
  · exact failC_sound _ _

/-! functions without a body -/
inductive Ext : Type
  | valueOf
  | swapper
  | len
def extName (q : Ext) : String := Ext.rec (motive := fun _ => String) "internal/reflectlite.ValueOf" "internal/reflectlite.Swapper" "(internal/reflectlite.Value).Len" q
def extSem (q : Ext) : Array Value → Sem Value :=
  Ext.rec (motive := fun _ => Array Value → Sem Value) (fun args => Extern.ReflectliteValue.unpack (args.getD 0 (.tuple #[]))) (Extern.ReflectliteSwapper.swapper "internal/reflectlite" (Extern.ReflectliteValue.valueError "Swapper"))
    (Extern.ReflectliteValue.method (Extern.ReflectliteValue.valueError "reflectlite.Value.Len" 0) Extern.ReflectliteValue.len) q
def isExt (P : Program) (g : Nat) (q : Ext) : Bool := (fnAt P g).any fun fn => fn.body.isNone && (fn.name == extName q && fn.origin == "")
theorem ext_next (q : Ext) : Extern.allNextRows.lookup (extName q) = none ∧ Extern.allNextRows.lookup "" = none := by
  cases q <;> exact ⟨by kernel_rfl, by kernel_rfl⟩
theorem ext_find (q : Ext) : Extern.allGenericRows.lookup (extName q) = none ∧ Extern.allTypedRows.lookup (extName q) = none ∧ Extern.allRows.lookup (extName q) = some (extSem q) := by
  cases q <;> exact ⟨by kernel_rfl, by kernel_rfl, by kernel_rfl⟩
theorem ext_run {P : Program} {g : Nat} {q : Ext} (h : isExt P g q = true) (args : Array Value) (w : World) : (callFunc g args).run P w = ((extSem q args).run P w).andThen fun v w' => .ok (.value v) w' := by
  unfold isExt at h
  rw [fnAt_eq] at h
  cases hf : P.funcs[g]? with
  | none => simp [hf] at h
  | some fn =>
    simp only [hf, Option.any_some, Bool.and_eq_true, beq_iff_eq] at h
    obtain ⟨hb, hn, ho⟩ := h
    have h1 := ext_next q
    have h2 := ext_find q
    refine run_callFunc_extern hf ?_ hb ?_ ?_ args w
    · rw [hn]; cases q <;> rfl
    · simp only [Extern.findNext, hn, ho, h1.1, h1.2]; rfl
    · simp only [Extern.find, hn, h2.1, h2.2.1, h2.2.2]; rfl

def onIfc (v : V) (k : Nat → V → Rc) : Rc := (V.rec (motive := fun _ => Rc) (Rc.fail) (Rc.fail) (Rc.fail) (Rc.fail) (Rc.fail) (Rc.fail) (Rc.fail) (Rc.fail) (fun _ _ => Rc.fail) (fun _ _ _ => Rc.fail) (fun _ => Rc.fail) (fun _ => Rc.fail) (fun t x _ => k t x) (fun _ _ => Rc.fail) (fun _ _ => Rc.fail) (fun _ _ _ _ => Rc.fail) (fun _ _ _ => Rc.fail) (fun _ _ _ _ _ _ => Rc.fail) (fun _ _ _ _ _ => Rc.fail) (fun _ => Rc.fail) (fun _ _ => Rc.fail)) v
def sliceN (v : V) (k : Nat → Rc) : Rc := (V.rec (motive := fun _ => Rc) (Rc.fail) (Rc.fail) (Rc.fail) (k 0) (Rc.fail) (Rc.fail) (Rc.fail) (Rc.fail) (fun _ _ => Rc.fail) (fun _ _ _ => Rc.fail) (fun _ => Rc.fail) (fun _ => Rc.fail) (fun _ _ _ => Rc.fail) (fun _ _ => Rc.fail) (fun _ _ => Rc.fail) (fun _ _ _ _ => Rc.fail) (fun _ _ _ => Rc.fail) (fun _ _ _ _ len _ => k len) (fun _ _ _ _ _ => Rc.fail) (fun _ => Rc.fail) (fun _ _ => Rc.fail)) v
theorem onIfc_ok {v : V} {k : Nat → V → Rc} {r : V} {h : Store} (e : onIfc v k = .ok r h) {m : Mp} {x : Value} (hx : VR m v x) : ∃ t u y, v = .ifc t u ∧ x = .iface t y ∧ VR m u y ∧ k t u = .ok r h := by
  cases hx with
  | ifc _ m' t u y hm hy => subst hm; exact ⟨t, u, y, rfl, rfl, hy, e⟩
  | _ => cases e
theorem sliceN_ok {v : V} {k : Nat → Rc} {r : V} {h : Store} (e : sliceN v k = .ok r h) {m : Mp} {x : Value} (hx : VR m v x) : ∃ b n c, x = .slice b n c ∧ k n = .ok r h ∧ x.oneCell' = true ∧ ncell v = 1 := by
  cases hx with
  | nils => exact ⟨none, 0, 0, rfl, e, rfl, rfl⟩
  | sl _ sz id gen off len cap p o n q cc => exact ⟨_, len, cc, rfl, e, rfl, rfl⟩
  | _ => cases e
/-- the element type of a slice type without a name -/
def sliceElem (P : Program) (t : Nat) : Option Nat := match P.info? t with | some i => (match i.desc with | .slice e => some e | _ => none) | none => none
theorem sliceElem_some {P : Program} {t e : Nat} (h : sliceElem P t = some e) : ∃ i, P.info? t = some i ∧ i.desc = .slice e := by
  unfold sliceElem at h
  split at h
  · rename_i i hi
    split at h
    · rename_i e' hd; cases h; exact ⟨i, hi, hd⟩
    · cases h
  · cases h
def kindB (P : Program) (t : Nat) : Option Nat :=
  match P.info? t with
  | some i => match i.desc with
    | .named _ u => match P.info? u with
      | some j => match j.desc with
        | .struct _ => some 25
        | _ => none
      | none => none
    | .struct _ => some 25
    | .slice _ => some 23
    | .pointer _ => some 22
    | .string => some 24
    | _ => none
  | none => none
theorem kindB_run {P : Program} {t k : Nat} (h : kindB P t = some k) (w : World) : (Extern.Rtype.kind t).run P w = .ok k w := by
  unfold kindB at h
  split at h
  rotate_left
  · cases h
  rename_i i hi
  have hti := Lib.rl_info t i hi w
  split at h
  · rename_i nm u hd
    split at h
    rotate_left
    · cases h
    rename_i j hj
    split at h
    rotate_left
    · cases h
    rename_i fs hjd
    cases h
    have htj := Lib.rl_info u j hj w
    simp [Extern.Rtype.kind, Extern.Rtype.under, hti, hd, htj, hjd]
  all_goals first | cases h | skip
  all_goals rename_i hd; simp [Extern.Rtype.kind, Extern.Rtype.under, hti, hd]
def swapLit (P : Program) (n : Nat) : Option Nat := P.funcs.findIdx? (fun x => x.name == Bool.rec "internal/reflectlite.Swapper$2" "internal/reflectlite.Swapper$1" (Nat.beq n 0))

def handV (P : Program) (t : Nat) : V := .raw P.globals.size t
theorem handV_ok (m : Mp) (P : Program) (t : Nat) : VR m (handV P t) (typeHandle P t) := .raw _ _ _
theorem arr3 {a : Array Value} (h : a.size = 3) : ∃ x y z, a = #[x, y, z] := by
  refine ⟨a[0], a[1], a[2], ?_⟩
  apply Array.ext
  · simp [h]
  · intro i h1 h2
    match i, h2 with
    | 0, _ => rfl
    | 1, _ => rfl
    | 2, _ => rfl
def lenExt (P : Program) (v : V) (h : Store) : Rc :=
  (V.rec (motive := fun _ => Rc) (Rc.fail) (Rc.fail) (Rc.fail) (Rc.fail) (Rc.fail) (Rc.fail) (Rc.fail) (Rc.fail) (fun _ _ => Rc.fail) (fun _ _ _ => Rc.fail) (fun _ => Rc.fail) (fun _ => Rc.fail) (fun _ _ _ => Rc.fail) (fun _ _ => Rc.fail) (fun _ _ => Rc.fail) (fun _ _ _ _ => Rc.fail) (fun n cs _ => (V.rec (motive := fun _ => Rc) (Rc.fail) (Rc.fail) (Rc.fail) (Rc.fail) (Rc.fail) (Rc.fail) (Rc.fail) (Rc.fail) (fun b t => ifB (bothB (Nat.beq b P.globals.size) (bothB (sliceElem P t).isSome (notB (P.packed t))))
        ((V.rec (motive := fun _ => Rc) (Rc.fail) (Rc.fail) (Rc.fail) (Rc.fail) (Rc.fail) (Rc.fail) (Rc.fail) (Rc.fail) (fun _ _ => Rc.fail) (fun _ _ _ => Rc.fail) (fun _ => Rc.fail) (fun _ => Rc.fail) (fun _ _ _ => Rc.fail) (fun _ _ => Rc.fail) (fun _ _ => Rc.fail) (fun _ _ _ _ => Rc.fail) (fun _ _ _ => Rc.fail) (fun _ _ _ _ _ _ => Rc.fail) (fun _ _ _ _ _ => Rc.fail) (fun _ => Rc.fail) (fun k f => ifB (bothB (Nat.beq (kix k) 7) (Nat.beq f 151)) (ifB (Nat.beq n 3) (Rc.rec (motive := fun _ => Rc) Rc.fail (fun s _ => sliceN s fun len => ifB (Nat.blt len 9223372036854775808) (.ok (.int .i64 len) h)) (loadV false 1 (vnth cs 1) h))))) (vnth cs 2))) (fun _ _ _ => Rc.fail) (fun _ => Rc.fail) (fun _ => Rc.fail) (fun _ _ _ => Rc.fail) (fun _ _ => Rc.fail) (fun _ _ => Rc.fail) (fun _ _ _ _ => Rc.fail) (fun _ _ _ => Rc.fail) (fun _ _ _ _ _ _ => Rc.fail) (fun _ _ _ _ _ => Rc.fail) (fun _ => Rc.fail) (fun _ _ => Rc.fail)) (vnth cs 0)) (fun _ _ _ _ _ _ => Rc.fail) (fun _ _ _ _ _ => Rc.fail) (fun _ => Rc.fail) (fun _ _ => Rc.fail)) v
def extC (P : Program) (q : Ext) (args : V) (h : Store) : Rc :=
  Ext.rec (motive := fun _ => Rc)
    (onIfc (vnth args 0) fun t u => ifB (sliceElem P t).isSome (sliceN u fun _ => .ok (.agg 3 (.cons (handV P t) (.cons (.ptr 1 h.next 0 0 0) (.cons (.int .u64 151) .nil)))) (h.push (.seq 0 1 1 (vput u Tr.leaf 1)))))
    (onIfc (vnth args 0) fun t u => sliceN u fun n => ifB (Nat.ble n 1) (match sliceElem P t with
      | some e => (match P.info? e, kindB P e, swapLit P n with
        | some _, some _, some f => .ok (.fn f .nil) h
        | _, _, _ => .fail)
      | none => .fail))
    (lenExt P (vnth args 0) h) q

theorem extC_ok {P : Program} {g : Nat} {q : Ext} (hq : isExt P g q = true) {args : V} {h h' : Store} {v : V} (e : extC P q args h = .ok v h') {m : Mp} {w : World} {cargs : Array Value} (hr : HR m h w.heap) (hl : cargs.size = 1)
    (hx : VR m (vnth args 0) (cargs.getD 0 Go.undef)) : ∃ m' w' x, (callFunc g cargs).run P w = .ok (.value x) w' ∧ VR m' v x ∧ TR m h w m' h' w' := by
  obtain ⟨c0, rfl⟩ := Array.size_eq_one_iff.1 hl
  have hx : VR m (vnth args 0) c0 := by simpa using hx
  rw [ext_run hq]
  cases q with
  | valueOf =>
    obtain ⟨t, u, y, _, rfl, hy, e1⟩ := onIfc_ok (show onIfc (vnth args 0) _ = .ok v h' from e) hx
    obtain ⟨hs, e2⟩ := ifB_ok e1
    obtain ⟨el, hel⟩ := Option.isSome_iff_exists.1 hs
    obtain ⟨i, hi, hd⟩ := sliceElem_some hel
    obtain ⟨b, n, c, rfl, e3, hone, hnc⟩ := sliceN_ok e2 hy
    cases e3
    obtain ⟨m', t1, t2⟩ := newBox_ok hr 1 u t #[.slice b n c] rfl (fun i hi => by
      have hi : i < 1 := hi
      obtain rfl : i = 0 := by omega
      rfl) (fun j hj => by
      obtain rfl : j = 0 := by omega
      have := (cells_of hy (by omega)).2.2 0 (by omega)
      simpa [Value.cells] using this)
    have hrun := Lib.run_valueOf_slice (P := P) t el i hi hd b n c w
    refine ⟨m', _, _, by show ((Extern.ReflectliteValue.unpack (.iface t (.slice b n c))).run P w).andThen _ = _; rw [hrun]; rfl, ?_, t1⟩
    refine .agg m' 3 _ _ rfl (fun j hj => ?_) fun j hj => ?_
    · match j, hj with
      | 0, _ => rfl
      | 1, _ => rfl
      | 2, _ => rfl
    · match j, hj with
      | 0, _ => exact handV_ok m' P t
      | 1, _ => exact t2
      | 2, _ => exact .int m' .u64 151 (by decide)
  | swapper =>
    obtain ⟨t, u, y, _, rfl, hy, e1⟩ := onIfc_ok (show onIfc (vnth args 0) _ = .ok v h' from e) hx
    obtain ⟨b, n, c, rfl, e2, hone, hnc⟩ := sliceN_ok e1 hy
    obtain ⟨hn, e3⟩ := ifB_ok e2
    have hn := Nat.le_of_ble_eq_true hn
    split at e3
    rotate_left
    · cases e3
    rename_i el hel
    split at e3
    rotate_left
    · cases e3
    rename_i ie ke f hie hke hf
    cases e3
    obtain ⟨i, hi, hd⟩ := sliceElem_some hel
    have hk : Lib.swapperK n ie ke = if n = 0 then 1 else 2 := by
      unfold Lib.swapperK
      rcases Nat.eq_zero_or_pos n with h0 | h0
      · simp [h0]
      · have : n = 1 := by omega
        simp [this]
    have hfi : P.funcs.findIdx? (·.name == "internal/reflectlite" ++ ".Swapper$" ++ toString (Lib.swapperK n ie ke)) = some f := by
      rw [hk]
      unfold swapLit at hf
      rcases Nat.eq_zero_or_pos n with h0 | h0
      · subst h0; exact hf
      · have : n = 1 := by omega
        subst this; exact hf
    have hrun := Lib.run_swapper_slice (P := P) t el i ie hi hd hie ke (fun w => kindB_run hke w) b n c f hfi w
    refine ⟨m, w, _, by show ((Extern.ReflectliteSwapper.swapper "internal/reflectlite" (Extern.ReflectliteValue.valueError "Swapper") #[.iface t (.slice b n c)]).run P w).andThen _ = _; rw [hrun]; rfl, ?_, .refl hr⟩
    have hle : Lib.swapperK n ie ke ≤ 2 := by rw [hk]; split <;> omega
    rw [if_pos hle]
    exact .fn m f .nil #[] rfl fun j hj => absurd hj (Nat.not_lt_zero _)
  | len =>
    have e : lenExt P (vnth args 0) h = .ok v h' := e
    generalize vnth args 0 = vv at hx e
    cases hx with
    | agg _ n cs a hs h1 hc =>
      have e : (V.rec (motive := fun _ => Rc) (Rc.fail) (Rc.fail) (Rc.fail) (Rc.fail) (Rc.fail) (Rc.fail) (Rc.fail) (Rc.fail) (fun b t => ifB (bothB (Nat.beq b P.globals.size) (bothB (sliceElem P t).isSome (notB (P.packed t))))
        ((V.rec (motive := fun _ => Rc) (Rc.fail) (Rc.fail) (Rc.fail) (Rc.fail) (Rc.fail) (Rc.fail) (Rc.fail) (Rc.fail) (fun _ _ => Rc.fail) (fun _ _ _ => Rc.fail) (fun _ => Rc.fail) (fun _ => Rc.fail) (fun _ _ _ => Rc.fail) (fun _ _ => Rc.fail) (fun _ _ => Rc.fail) (fun _ _ _ _ => Rc.fail) (fun _ _ _ => Rc.fail) (fun _ _ _ _ _ _ => Rc.fail) (fun _ _ _ _ _ => Rc.fail) (fun _ => Rc.fail) (fun k f => ifB (bothB (Nat.beq (kix k) 7) (Nat.beq f 151)) (ifB (Nat.beq n 3) (Rc.rec (motive := fun _ => Rc) Rc.fail (fun s _ => sliceN s fun len => ifB (Nat.blt len 9223372036854775808) (.ok (.int .i64 len) h)) (loadV false 1 (vnth cs 1) h))))) (vnth cs 2))) (fun _ _ _ => Rc.fail) (fun _ => Rc.fail) (fun _ => Rc.fail) (fun _ _ _ => Rc.fail) (fun _ _ => Rc.fail) (fun _ _ => Rc.fail) (fun _ _ _ _ => Rc.fail) (fun _ _ _ => Rc.fail) (fun _ _ _ _ _ _ => Rc.fail) (fun _ _ _ _ _ => Rc.fail) (fun _ => Rc.fail) (fun _ _ => Rc.fail)) (vnth cs 0) = .ok v h' := e
      generalize hc0 : vnth cs 0 = c0 at e
      cases c0 with
      | raw b t =>
        obtain ⟨hb, e2⟩ := ifB_ok (b := bothB (Nat.beq b P.globals.size) (bothB (sliceElem P t).isSome (notB (P.packed t)))) e
        rw [bothB_eq, bothB_eq, Bool.and_eq_true, Bool.and_eq_true] at hb
        obtain ⟨b1, b2, b3⟩ := hb
        generalize hc2 : vnth cs 2 = c2 at e2
        cases c2 with
        | int k f =>
          obtain ⟨hb2, e3⟩ := ifB_ok (b := bothB (Nat.beq (kix k) 7) (Nat.beq f 151)) e2
          rw [bothB_eq, Bool.and_eq_true] at hb2
          obtain ⟨b4, b5⟩ := hb2
          obtain rfl : k = .u64 := kix_inj b4
          obtain rfl := Nat.eq_of_beq_eq_true b5
          obtain ⟨hn3, e4⟩ := ifB_ok e3
          obtain rfl := Nat.eq_of_beq_eq_true hn3
          have q0 := hc 0 (by omega); have q1 := hc 1 (by omega); have q2 := hc 2 (by omega)
          rw [hc0] at q0; rw [hc2] at q2
          obtain ⟨x0, x1, x2, rfl⟩ := arr3 hs
          · have q0 : VR m (.raw b t) x0 := by simpa using q0
            have q1 : VR m (vnth cs 1) x1 := by simpa using q1
            have q2 : VR m (.int .u64 151) x2 := by simpa using q2
            cases q0; cases q2
            obtain rfl := Nat.eq_of_beq_eq_true b1
            obtain ⟨el, hel⟩ := Option.isSome_iff_exists.1 b2
            obtain ⟨i, hi, hd⟩ := sliceElem_some hel
            have hpk : P.packed t = false := by rw [notB_eq] at b3; simpa using b3
            cases hld : loadV false 1 (vnth cs 1) h with
            | fail => rw [hld] at e4; cases e4
            | ok s h2 =>
              rw [hld] at e4
              have e4 : (sliceN s fun len => ifB (Nat.blt len 9223372036854775808) (.ok (.int .i64 len) h)) = .ok v h' := e4
              -- what lies there
              have hu : P.underlying t = some (.slice el) := Lib.rl_underlying t el i hi hd
              generalize vnth cs 1 = c1 at q1 hld
              cases q1 with
              | ptr _ sz id gen idx off p o nn hio =>
                have hld : loadObj false 1 sz gen idx off h (h.get id) = .ok s h2 := hld
                cases hob : h.get id with
                | seq g' s' size el' =>
                  rw [hob, loadObj_seq] at hld
                  obtain ⟨hbb, e5⟩ := ifB_ok hld
                  simp only [bothB_eq, Bool.and_eq_true] at hbb
                  obtain ⟨d1, d2, d3, d4⟩ := hbb
                  obtain rfl := Nat.eq_of_beq_eq_true d1
                  obtain rfl := Nat.eq_of_beq_eq_true d2
                  have d3 : idx < size := by simpa using d3
                  have d4 : off + 1 ≤ s' := Nat.le_of_ble_eq_true d4
                  cases e5
                  obtain ⟨a', ty', ha, hs', hfit, hone, hcc⟩ := hr.seq _ _ _ _ _ _ _ _ hob hio
                  have hcell := hcc idx off d3 (by omega)
                  obtain ⟨bb, n, c, hxe, e6, _, _⟩ := sliceN_ok e4 (show VR m (subElem false 1 s' (vget el' (Nat.succ idx)) off) _ from hcell)
                  obtain ⟨hlt, e7⟩ := ifB_ok e6
                  have hlt : n < 9223372036854775808 := by simpa using hlt
                  cases e7
                  have hrow := row_fits (sz := s') d3
                  have hw : w.cell? ⟨p, o + idx * s' + off, none⟩ = some (.slice bb n c) := by
                    simp only [World.cell?, ha, Option.isSome_none, Bool.false_eq_true, if_false]
                    rw [← hxe]; simp [Array.getD, show o + idx * s' + off < a'.size by omega]
                  have hrun := Lib.run_valueLen_slice (P := P) t el i hi hd hpk ⟨p, o + idx * s' + off, none⟩ bb n c w hw
                  refine ⟨m, w, _, ?_, goInt_ok m n hlt, .refl hr⟩
                  show ((Extern.ReflectliteValue.method (Extern.ReflectliteValue.valueError "reflectlite.Value.Len" 0) Extern.ReflectliteValue.len #[.agg #[typeHandle P t, .pointer (some ⟨p, o + idx * s' + off, none⟩), .int .u64 151]]).run P w).andThen _ = _
                  rw [hrun]; rfl
                | far g' s' size el' =>
                  rw [hob, loadObj_far0] at hld
                  obtain ⟨hbb, e5⟩ := ifB_ok hld
                  simp only [bothB_eq, Bool.and_eq_true] at hbb
                  obtain ⟨d1, d2, d3, d4⟩ := hbb
                  obtain rfl := Nat.eq_of_beq_eq_true d1
                  obtain rfl := Nat.eq_of_beq_eq_true d2
                  have d3 : idx < size := by simpa using d3
                  have d4 : off + 1 ≤ s' := Nat.le_of_ble_eq_true d4
                  cases e5
                  obtain ⟨⟨a', ty', fz', ha, hfit, hcc⟩, _⟩ := hr.far _ _ _ _ _ _ _ _ hob hio
                  have hfit := hfit (by omega)
                  have hcell := (hcc idx off d3 (by omega)).2
                  obtain ⟨bb, n, c, hxe, e6, _, _⟩ := sliceN_ok e4 (show VR m (subElem false 1 s' (vget el' (Nat.succ idx)) off) _ from hcell)
                  obtain ⟨hlt, e7⟩ := ifB_ok e6
                  have hlt : n < 9223372036854775808 := by simpa using hlt
                  cases e7
                  have hrow := row_fits (sz := s') d3
                  have hw : w.cell? ⟨p, o + idx * s' + off, none⟩ = some (.slice bb n c) := by
                    simp only [World.cell?, ha, Option.isSome_none, Bool.false_eq_true, if_false]
                    rw [← hxe]; simp [Array.getD, show o + idx * s' + off < a'.size by omega]
                  have hrun := Lib.run_valueLen_slice (P := P) t el i hi hd hpk ⟨p, o + idx * s' + off, none⟩ bb n c w hw
                  refine ⟨m, w, _, ?_, goInt_ok m n hlt, .refl hr⟩
                  show ((Extern.ReflectliteValue.method (Extern.ReflectliteValue.valueError "reflectlite.Value.Len" 0) Extern.ReflectliteValue.len #[.agg #[typeHandle P t, .pointer (some ⟨p, o + idx * s' + off, none⟩), .int .u64 151]]).run P w).andThen _ = _
                  rw [hrun]; rfl
                | _ => rw [hob] at hld; cases hld
              | _ => cases hld
        | _ => cases e2
      | _ => cases e
    | _ => cases e

end
end Go.Proofs.Ytglhpnieiphahaa.D
