/- The engine, seen plainly (5): the steps, gathered for the simplifier. -/
import Derived.Test.YtglhpnieiphahaaESd
set_option autoImplicit false
set_option linter.unusedSimpArgs false
set_option linter.unusedVariables false
namespace Go.Proofs.Ytglhpnieiphahaa.D
open Go
noncomputable section

/-- steps of codes and events -/
theorem sx : ∀ {P : Program} {call : Nat → V → Store → Rc} {ρ : Env} {h : Store} {k : List Fr} {Q : X → Env → Store → Prop},
    (Rn P call .skip ρ h k Q = Kx P call .nrm ρ h k Q) ∧ (∀ l ls, Rn P call (.evs l ls) ρ h k Q = Es P call l ls ρ h k Q) ∧ (∀ a b, Rn P call (.seq a b) ρ h k Q = Rn P call a ρ h (.seq b :: k) Q) ∧
    (∀ id, Rn P call (.exit id) ρ h k Q = Kx P call (.ext id) ρ h k Q) ∧ (Rn P call .ret ρ h k Q = Kx P call .ret ρ h k Q) ∧ (∀ c a b, Rn P call (.cond c a b) ρ h k Q = Cd P call (rd ρ c) a b ρ h k Q) ∧
    (∀ a b, Cd P call (.bool true) a b ρ h k Q = Rn P call a ρ h k Q) ∧ (∀ a b, Cd P call (.bool false) a b ρ h k Q = Rn P call b ρ h k Q) ∧
    (∀ b, Kx P call .nrm ρ h (.seq b :: k) Q = Rn P call b ρ h k Q) ∧ (∀ j b, Kx P call (.ext j) ρ h (.seq b :: k) Q = Kx P call (.ext j) ρ h k Q) ∧ (∀ b, Kx P call .ret ρ h (.seq b :: k) Q = Kx P call .ret ρ h k Q) ∧
    (∀ id, Kx P call .nrm ρ h (.blk id :: k) Q = Kx P call .nrm ρ h k Q) ∧ (∀ id, Kx P call .ret ρ h (.blk id :: k) Q = Kx P call .ret ρ h k Q) ∧ (∀ id, Kx P call (.ext id) ρ h (.blk id :: k) Q = Kx P call .nrm ρ h k Q) ∧
    (∀ J, Kx P call .nrm ρ h (.inv J :: k) Q = Jn J ρ h) ∧ (∀ j J, Kx P call (.ext j) ρ h (.inv J :: k) Q = Kx P call (.ext j) ρ h k Q) ∧ (∀ J, Kx P call .ret ρ h (.inv J :: k) Q = Kx P call .ret ρ h k Q) ∧
    (∀ ls, Es P call [] ls ρ h k Q = Kx P call .nrm (trim ls ρ) h k Q) ∧
    (∀ d s es ls, Es P call (mv d s :: es) ls ρ h k Q = Es P call es ls (Env.set ρ d (ρ s)) h k Q) ∧ (∀ d v es ls, Es P call (mc d v :: es) ls ρ h k Q = Es P call es ls (Env.set ρ d v) h k Q) ∧
    (∀ d r es ls, Es P call (xe d r :: es) ls ρ h k Q = Af P call (r.run P call ρ h) (some d) es ls ρ k Q) ∧ (∀ r es ls, Es P call (xn r :: es) ls ρ h k Q = Af P call (r.run P call ρ h) none es ls ρ k Q) ∧
    (∀ d t w r es ls, Es P call (.ex d (some (t, w)) r :: es) ls ρ h k Q = Gd P call w (ρ t) r d es ls ρ h k Q) ∧ (∀ d r es ls, Es P call (.ck d none r :: es) ls ρ h k Q = Ck P call (r.run P call ρ h) (ρ d) es ls ρ h k Q) ∧
    (∀ d t w r es ls, Es P call (.ck d (some (t, w)) r :: es) ls ρ h k Q = Gk P call w (ρ t) r d es ls ρ h k Q) ∧ (∀ a b es ls, Es P call (.dif a b :: es) ls ρ h k Q = (difAddr (rd ρ a) (rd ρ b) = true ∧ Es P call es ls ρ h k Q)) ∧
    (∀ r d es ls, Gd P call true (.bool true) r d es ls ρ h k Q = Af P call (r.run P call ρ h) d es ls ρ k Q) ∧ (∀ r d es ls, Gd P call false (.bool false) r d es ls ρ h k Q = Af P call (r.run P call ρ h) d es ls ρ k Q) ∧
    (∀ r d es ls, Gd P call true (.bool false) r (some d) es ls ρ h k Q = Es P call es ls (Env.set ρ d .undef) h k Q) ∧ (∀ r d es ls, Gd P call false (.bool true) r (some d) es ls ρ h k Q = Es P call es ls (Env.set ρ d .undef) h k Q) ∧
    (∀ w r d es ls, Gd P call w .undef r (some d) es ls ρ h k Q = Es P call es ls (Env.set ρ d .undef) h k Q) ∧
    (∀ r d es ls, Gk P call true (.bool true) r d es ls ρ h k Q = Ck P call (r.run P call ρ h) (ρ d) es ls ρ h k Q) ∧ (∀ r d es ls, Gk P call false (.bool false) r d es ls ρ h k Q = Ck P call (r.run P call ρ h) (ρ d) es ls ρ h k Q) ∧
    (∀ r d es ls, Gk P call true (.bool false) r d es ls ρ h k Q = Es P call es ls ρ h k Q) ∧ (∀ r d es ls, Gk P call false (.bool true) r d es ls ρ h k Q = Es P call es ls ρ h k Q) ∧ (∀ w r d es ls, Gk P call w .undef r d es ls ρ h k Q = Es P call es ls ρ h k Q) ∧
    (∀ v h' es ls, Ck P call (.ok v h') v es ls ρ h k Q = Es P call es ls ρ h k Q) := by
  intro P call ρ h k Q
  exact ⟨rfl, fun _ _ => rfl, Rn_seq, fun _ => rfl, rfl, fun _ _ _ => rfl, fun _ _ => rfl, fun _ _ => rfl, fun _ => rfl, fun _ _ => rfl, fun _ => rfl, fun _ => rfl, fun _ => rfl, Kx_blkE, fun _ => rfl, fun _ _ => rfl, fun _ => rfl,
    fun _ => rfl, fun _ _ _ _ => rfl, fun _ _ _ _ => rfl, fun _ _ _ _ => rfl, fun _ _ _ => rfl, fun _ _ _ _ _ _ => rfl, fun _ _ _ _ => rfl, fun _ _ _ _ _ _ => rfl, fun _ _ _ _ => rfl,
    fun _ _ _ _ => rfl, fun _ _ _ _ => rfl, fun _ _ _ _ => rfl, fun _ _ _ _ => rfl, fun _ _ _ _ _ => rfl, fun _ _ _ _ => rfl, fun _ _ _ _ => rfl, fun _ _ _ _ => rfl, fun _ _ _ _ => rfl, fun _ _ _ _ _ => rfl, Ck_ok⟩
theorem fx : ∀ {P : Program} {call : Nat → V → Store → Rc} {ρ : Env} {k : List Fr} {Q : X → Env → Store → Prop},
    (∀ v h' d es ls, Af P call (.ok v h') (some d) es ls ρ k Q = Es P call es ls (Env.set ρ d v) h' k Q) ∧ (∀ v h' es ls, Af P call (.ok v h') none es ls ρ k Q = Es P call es ls ρ h' k Q) := by
  intro P call ρ k Q
  exact ⟨fun _ _ _ _ _ => rfl, fun _ _ _ _ => rfl⟩
theorem kx : ∀ {P : Program} {call : Nat → V → Store → Rc} {ρ : Env} {h : Store} {Q : X → Env → Store → Prop}, ∀ x, Kx P call x ρ h [] Q = Q x ρ h := fun _ => rfl
theorem rx : ∀ {ρ : Env} {h : Store} {Q : V → Store → Prop}, (∀ a, FinW [.tmp a] Q .ret ρ h = Q (ρ a) h) ∧ (∀ a b, FinW [.tmp a, .tmp b] Q .ret ρ h = Q (.tup (.cons (ρ a) (.cons (ρ b) .nil))) h) ∧
    (∀ a b c, FinW [.tmp a, .tmp b, .tmp c] Q .ret ρ h = Q (.tup (.cons (ρ a) (.cons (ρ b) (.cons (ρ c) .nil)))) h) ∧ (FinW [] Q .ret ρ h = Q (.tup .nil) h) ∧ (FinW [] Q .nrm ρ h = Q (.tup .nil) h) :=
  ⟨fun _ => rfl, fun _ _ => rfl, fun _ _ _ => rfl, rfl, rfl⟩
/-- operations -/
theorem ox : ∀ {P : Program} {call : Nat → V → Store → Rc} {ρ : Env} {h : Store},
    (∀ x, (RO.mov x).run P call ρ h = .ok (rd ρ x) h) ∧ (∀ c a b, (RO.pick c a b).run P call ρ h = onBool (rd ρ c) fun q => Rc.ok (Bool.rec (motive := fun _ => V) (rd ρ b) (rd ρ a) q) h) ∧ (∀ n e, (RO.box n e).run P call ρ h = .ok (.ptr n h.next 0 0 0) (h.push (.seq 0 n 1 (vput e .leaf 1)))) ∧
    (∀ x, (RO.boxv x).run P call ρ h = boxV (rd ρ x) h) ∧ (∀ n z ps, (RO.build n z ps).run P call ρ h = fillW ρ ps z fun cs => .ok (.agg n cs) h) ∧
    (∀ sz n z ps, (RO.lit sz n z ps).run P call ρ h = fillT ρ sz ps (vfull z n n) fun el => .ok (.sl sz h.next 0 0 n (Nat.succ n)) (h.push (.seq 0 sz n el))) ∧
    (∀ g n x, (RO.load g n x).run P call ρ h = loadV g n (rd ρ x) h) ∧ (∀ n a x, (RO.store n a x).run P call ρ h = storeV n (rd ρ a) (rd ρ x) h) ∧ (∀ x, (RO.chk x).run P call ρ h = ifB (isPtr (rd ρ x)) (.ok (rd ρ x) h)) ∧
    (∀ op x y, (RO.bin op x y).run P call ρ h = binW op (rd ρ x) (rd ρ y) h) ∧ (∀ neg x y, (RO.eqi neg x y).run P call ρ h = eqI neg (rd ρ x) (rd ρ y) h) ∧ (∀ neg x y, (RO.eqb neg x y).run P call ρ h = eqB neg (rd ρ x) (rd ρ y) h) ∧
    (∀ op x, (RO.un op x).run P call ρ h = unR op (rd ρ x) h) ∧ (∀ k x, (RO.cvt k x).run P call ρ h = onInt (rd ρ x) fun k0 n => .ok (cvtV k k0 n) h) ∧ (∀ f caps, (RO.fn f caps).run P call ρ h = .ok (.fn f (rdL ρ caps)) h) ∧
    (∀ sz b z l c, (RO.mk sz b z l c).run P call ρ h = mkR sz b z (rd ρ l) (rd ρ c) h) ∧
    (∀ sz x lo hi mx, (RO.cut sz x lo hi mx).run P call ρ h = ifB (szIs sz (rd ρ x)) (onOptW ρ lo fun l => onOptW ρ hi fun hh => onOptW ρ mx fun mm => cutV (Option.getD l 0) hh mm (rd ρ x) h)) ∧
    (∀ k x, (RO.fadr k x).run P call ρ h = fieldV k (rd ρ x) h) ∧ (∀ g n off x, (RO.fld g n off x).run P call ρ h = partV g n off (rd ρ x) h) ∧ (∀ sz x i, (RO.iadr sz x i).run P call ρ h = onIdx (rd ρ i) fun k => elemV sz (rd ρ x) k h) ∧
    (∀ n0 sz x i, (RO.aadr n0 sz x i).run P call ρ h = onIdx (rd ρ i) fun k => ifB (Nat.blt k n0) (fieldV (Nat.mul k sz) (rd ρ x) h)) ∧ (∀ x i, (RO.ext x i).run P call ρ h = extR (rd ρ x) i h) ∧ (∀ x, (RO.len x).run P call ρ h = lenV (rd ρ x) h) ∧
    (∀ sz b s x, (RO.app sz b s x).run P call ρ h = appendV sz b (rd ρ s) (rd ρ x) h) ∧ (∀ f args, (RO.call f args).run P call ρ h = call f (rdL ρ args) h) ∧ (∀ f args, (RO.callv f args).run P call ρ h = callvR P call (rd ρ f) (rdL ρ args) h) := by
  intro P call ρ h
  exact ⟨fun _ => rfl, fun _ _ _ => rfl, fun _ _ => rfl, fun _ => rfl, fun _ _ _ => rfl, fun _ _ _ _ => rfl, fun _ _ _ => rfl, fun _ _ _ => rfl, fun _ => rfl, fun _ _ _ => rfl, fun _ _ _ => rfl, fun _ _ _ => rfl, fun _ _ => rfl, fun _ _ => rfl, fun _ _ => rfl,
    fun _ _ _ _ _ => rfl, fun _ _ _ _ _ => rfl, fun _ _ => rfl, fun _ _ _ _ => rfl, fun _ _ _ => rfl, fun _ _ _ _ => rfl, fun _ _ => rfl, fun _ => rfl, fun _ _ _ _ => rfl, fun _ _ => rfl, fun _ _ => rfl⟩
/-- structs: one cell written, cells of lists -/
theorem gx : (∀ cs off x, newEl 1 2 (.agg 2 cs) off x = .agg 2 (vset (vhd (cellsOf x)) (vpre 2 cs) off)) ∧ (∀ cs off x, newEl 1 3 (.agg 3 cs) off x = .agg 3 (vset (vhd (cellsOf x)) (vpre 3 cs) off)) ∧ (∀ cs off x, newEl 1 4 (.agg 4 cs) off x = .agg 4 (vset (vhd (cellsOf x)) (vpre 4 cs) off)) ∧ (∀ cs off x, newEl 1 5 (.agg 5 cs) off x = .agg 5 (vset (vhd (cellsOf x)) (vpre 5 cs) off)) ∧ (∀ cs off x, newEl 1 6 (.agg 6 cs) off x = .agg 6 (vset (vhd (cellsOf x)) (vpre 6 cs) off)) ∧ (∀ cs off x, newEl 1 7 (.agg 7 cs) off x = .agg 7 (vset (vhd (cellsOf x)) (vpre 7 cs) off)) ∧ (∀ cs off x, newEl 1 8 (.agg 8 cs) off x = .agg 8 (vset (vhd (cellsOf x)) (vpre 8 cs) off)) ∧ (∀ cs off x, newEl 1 9 (.agg 9 cs) off x = .agg 9 (vset (vhd (cellsOf x)) (vpre 9 cs) off)) ∧
    (∀ l, vpre 0 l = .nil) ∧ (∀ h t, vpre 1 (.cons h t) = .cons h (vpre 0 t)) ∧ (∀ h t, vpre 2 (.cons h t) = .cons h (vpre 1 t)) ∧ (∀ h t, vpre 3 (.cons h t) = .cons h (vpre 2 t)) ∧ (∀ h t, vpre 4 (.cons h t) = .cons h (vpre 3 t)) ∧ (∀ h t, vpre 5 (.cons h t) = .cons h (vpre 4 t)) ∧ (∀ h t, vpre 6 (.cons h t) = .cons h (vpre 5 t)) ∧ (∀ h t, vpre 7 (.cons h t) = .cons h (vpre 6 t)) ∧ (∀ h t, vpre 8 (.cons h t) = .cons h (vpre 7 t)) ∧ (∀ h t, vpre 9 (.cons h t) = .cons h (vpre 8 t)) ∧
    (∀ h t, vnth (.cons h t) 7 = vnth t 6) ∧ (∀ h t, vnth (.cons h t) 8 = vnth t 7) ∧ (∀ h t, vnth (.cons h t) 9 = vnth t 8) ∧ (∀ x h t, vset x (.cons h t) 5 = .cons h (vset x t 4)) ∧ (∀ x h t, vset x (.cons h t) 6 = .cons h (vset x t 5)) ∧ (∀ x h t, vset x (.cons h t) 7 = .cons h (vset x t 6)) ∧ (∀ x h t, vset x (.cons h t) 8 = .cons h (vset x t 7)) ∧ (∀ x h t, vset x (.cons h t) 9 = .cons h (vset x t 8)) :=
  ⟨fun _ _ _ => new1 _ _ _ _ rfl, fun _ _ _ => new1 _ _ _ _ rfl, fun _ _ _ => new1 _ _ _ _ rfl, fun _ _ _ => new1 _ _ _ _ rfl, fun _ _ _ => new1 _ _ _ _ rfl, fun _ _ _ => new1 _ _ _ _ rfl, fun _ _ _ => new1 _ _ _ _ rfl, fun _ _ _ => new1 _ _ _ _ rfl,
    fun _ => rfl, fun _ _ => rfl, fun _ _ => rfl, fun _ _ => rfl, fun _ _ => rfl, fun _ _ => rfl, fun _ _ => rfl, fun _ _ => rfl, fun _ _ => rfl, fun _ _ => rfl,
    fun _ _ => rfl, fun _ _ => rfl, fun _ _ => rfl, fun _ _ _ => rfl, fun _ _ _ => rfl, fun _ _ _ => rfl, fun _ _ _ => rfl, fun _ _ _ => rfl⟩
/-- numbers -/
theorem nx : (∀ ρ k, onOptW ρ none k = k none) ∧ (∀ ρ x k, onOptW ρ (some x) k = onIdx (rd ρ x) fun n => k (some n)) ∧ (∀ n, Nat.beq n n = true) ∧ (∀ k, ifB true k = k) ∧ (∀ ρ, trim [] ρ = jE) ∧ (∀ t ts ρ, trim (t :: ts) ρ = Env.set (trim ts ρ) t (ρ t)) ∧ (∀ ρ n, rd ρ (.t n) = ρ n) ∧ (∀ ρ v, rd ρ (.v v) = v) ∧ (∀ ρ d v s, Env.set ρ d v s = if s = d then v else ρ s) ∧ (∀ ρ, rdL ρ [] = .nil) ∧ (∀ ρ x xs, rdL ρ (x :: xs) = .cons (rd ρ x) (rdL ρ xs)) ∧ (∀ z, ki z = I z) ∧ (∀ a b h, binW .add (I a) (I b) h = .ok (I (a + b)) h) ∧ (∀ a b h, binW .sub (I a) (I b) h = .ok (I (a - b)) h) ∧ (∀ a b h, binW .mul (I a) (I b) h = .ok (I (a * b)) h) ∧
    (∀ b h, unR .not (.bool b) h = .ok (.bool (!b)) h) ∧ (∀ b x y h, onBool (.bool b) (fun q => Rc.ok (Bool.rec (motive := fun _ => V) y x q) h) = .ok (bif b then x else y) h) ∧
    (∀ k sz id gen idx off h, fieldV k (.ptr sz id gen idx off) h = .ok (.ptr sz id gen idx (off + k)) h) ∧ (∀ sz id gen idx off k, ifB (isPtr (.ptr sz id gen idx off)) k = k) ∧
    (∀ z, ncell (I z) = 1) ∧ (∀ b, ncell (.bool b) = 1) ∧ (∀ a b c d e f, ncell (.sl a b c d e f) = 1) ∧ (ncell .nils = 1) ∧ (∀ a b c d e, ncell (.ptr a b c d e) = 1) ∧ (∀ n cs, ncell (.agg n cs) = n) ∧
    (∀ z, cellsOf (I z) = .cons (I z) .nil) ∧ (∀ b, cellsOf (.bool b) = .cons (.bool b) .nil) ∧ (∀ a b c d e f, cellsOf (.sl a b c d e f) = .cons (.sl a b c d e f) .nil) ∧ (cellsOf .nils = .cons .nils .nil) ∧ (∀ n cs, cellsOf (.agg n cs) = cs) ∧
    (∀ z, cellAt (I z) 0 = I z) ∧ (∀ b, cellAt (.bool b) 0 = .bool b) ∧ (∀ a b c d e f, cellAt (.sl a b c d e f) 0 = .sl a b c d e f) ∧ (cellAt .nils 0 = .nils) ∧ (∀ n cs j, cellAt (.agg n cs) j = vnth cs j) ∧
    (∀ n sz e off, subElem false n sz e off = cellAt e off) ∧ (∀ n cs, subElem true n n (.agg n cs) 0 = .agg n cs) ∧ (∀ n e x off, newEl n n e off x = x) ∧
    (∀ h t, vnth (.cons h t) 0 = h) ∧ (∀ h t, vnth (.cons h t) 1 = vnth t 0) ∧ (∀ h t, vnth (.cons h t) 2 = vnth t 1) ∧ (∀ h t, vnth (.cons h t) 3 = vnth t 2) ∧ (∀ h t, vnth (.cons h t) 4 = vnth t 3) ∧ (∀ h t, vnth (.cons h t) 5 = vnth t 4) ∧ (∀ h t, vnth (.cons h t) 6 = vnth t 5) ∧
    (∀ x h t, vset x (.cons h t) 0 = .cons x t) ∧ (∀ x h t, vset x (.cons h t) 1 = .cons h (vset x t 0)) ∧ (∀ x h t, vset x (.cons h t) 2 = .cons h (vset x t 1)) ∧ (∀ x h t, vset x (.cons h t) 3 = .cons h (vset x t 2)) ∧ (∀ x h t, vset x (.cons h t) 4 = .cons h (vset x t 3)) ∧
    (∀ a b i, vover 0 a b i = a) ∧ (∀ a h t i, vover 1 a (.cons h t) i = vset h a i) ∧ (∀ h t, vhd (.cons h t) = h) ∧
    (∀ ρ cs k, fillW ρ [] cs k = k cs) ∧ (∀ ρ sz el k, fillT ρ sz [] el k = k el) ∧ (∀ h ob, (Store.push h ob).next = h.next + 1) ∧ (∀ h id ob, (Store.put h id ob).next = h.next) ∧ (∀ h ob, (Store.push h ob).get h.next = ob) ∧ (∀ h id ob, (Store.put h id ob).get id = ob) ∧
    (∀ h, lenV .nils h = .ok (I 0) h) ∧ (∀ x t, vget (vput x t 1) 1 = x) ∧ (∀ l v r, vget (.node l v r) 1 = v) ∧ (∀ a l h, extR (.tup (.cons a l)) 0 h = .ok a h) ∧ (∀ a b l h, extR (.tup (.cons a (.cons b l))) 1 h = .ok b h) ∧ (∀ a b c l h, extR (.tup (.cons a (.cons b (.cons c l)))) 2 h = .ok c h) :=
  ⟨fun _ _ => rfl, fun _ _ _ => rfl, fun n => Nat.beq_refl n, fun _ => rfl, fun _ => rfl, fun _ _ _ => rfl, fun _ _ => rfl, fun _ _ => rfl, fun _ _ _ _ => rfl, fun _ => rfl, fun _ _ _ => rfl, ki_I, bin_add, bin_sub, bin_mul, un_not, pick_b, fun _ _ _ _ _ _ _ => rfl, fun _ _ _ _ _ _ => rfl, ncell_I, fun _ => rfl, fun _ _ _ _ _ _ => rfl, rfl, fun _ _ _ _ _ => rfl, fun _ _ => rfl,
    cellsOf_I, fun _ => rfl, fun _ _ _ _ _ _ => rfl, rfl, fun _ _ => rfl, cellAt_I, fun _ => rfl, fun _ _ _ _ _ _ => rfl, rfl, fun _ _ _ => rfl, fun _ _ _ _ => rfl, subN, newN,
    fun _ _ => rfl, fun _ _ => rfl, fun _ _ => rfl, fun _ _ => rfl, fun _ _ => rfl, fun _ _ => rfl, fun _ _ => rfl, fun _ _ _ => rfl, fun _ _ _ => rfl, fun _ _ _ => rfl, fun _ _ _ => rfl, fun _ _ _ => rfl, fun _ _ _ => rfl, fun _ _ _ _ => rfl, fun _ _ => rfl,
    fun _ _ _ => rfl, fun _ _ _ _ => rfl, fun _ _ => rfl, fun _ _ _ => rfl, get_push_new, get_put_same, lenV_nil, fun x t => vget_same x t 1 (Nat.le_refl 1), fun _ _ _ => rfl, fun _ _ _ => rfl, fun _ _ _ _ => rfl, fun _ _ _ _ _ => rfl⟩
/-- memory; the conditions are for omega -/
theorem loadV_get (g : Bool) (k sz id gen idx off : Nat) (h : Store) : loadV g k (.ptr sz id gen idx off) h = loadObj g k sz gen idx off h (h.get id) := rfl
theorem loadObj_at (g : Bool) (k sz gen idx off : Nat) (h : Store) (n : Nat) (el : Tr) (h1 : idx < n) (h2 : off + k ≤ sz) : loadObj g k sz gen idx off h (.seq gen sz n el) = .ok (subElem g k sz (vget el (idx + 1)) off) h := by
  rw [loadObj_seq, bothB_eq, bothB_eq, bothB_eq, blt_iff, decide_eq_true h1, Nat.ble_eq_true_of_le (show Nat.add off k ≤ sz from h2)]
  simp [ifB_true]
theorem loadObj_far (g : Bool) (k sz gen idx off : Nat) (h : Store) (n : Nat) (el : Tr) (h1 : idx < n) (h2 : off + k ≤ sz) : loadObj g k sz gen idx off h (.far gen sz n el) = .ok (subElem g k sz (vget el (idx + 1)) off) h := by
  rw [loadObj_far0, bothB_eq, bothB_eq, bothB_eq, blt_iff, decide_eq_true h1, Nat.ble_eq_true_of_le (show Nat.add off k ≤ sz from h2)]
  simp [ifB_true]
theorem storeV_get (k sz id gen idx off : Nat) (x : V) (h : Store) : storeV k (.ptr sz id gen idx off) x h = storeObj k sz id gen idx off x h (h.get id) := rfl
theorem storeObj_at (k sz id gen idx off : Nat) (x : V) (h : Store) (n : Nat) (el : Tr) (h1 : idx < n) (h2 : off + k ≤ sz) (h3 : ncell x = k) (h4 : 1 ≤ k) :
    storeObj k sz id gen idx off x h (.seq gen sz n el) = .ok .undef (h.put id (.seq gen sz n (vput (newEl k sz (vget el (idx + 1)) off x) el (idx + 1)))) := by
  rw [storeObj_seq, bothB_eq, bothB_eq, bothB_eq, bothB_eq, bothB_eq, blt_iff, decide_eq_true h1, Nat.ble_eq_true_of_le (show Nat.add off k ≤ sz from h2), h3, Nat.ble_eq_true_of_le h4]
  simp [ifB_true]
theorem boxV_agg (n : Nat) (cs : V) (h : Store) (hn : 1 ≤ n) : boxV (.agg n cs) h = .ok (.ptr n h.next 0 0 0) (h.push (.seq 0 n 1 (vput (.agg n cs) .leaf 1))) := boxV_eq _ _ hn
/-- what is known of the state, in place of the state -/
theorem Rn_abs {P : Program} {call : Nat → V → Store → Rc} {c : RC} {ρ : Env} {h : Store} {k : List Fr} {Q : X → Env → Store → Prop} (A : Env → Store → Prop) (ha : A ρ h) (hw : ∀ ρ h, A ρ h → Rn P call c ρ h k Q) : Rn P call c ρ h k Q := hw ρ h ha
theorem Es_abs {P : Program} {call : Nat → V → Store → Rc} {es : List Ev} {ls : List Nat} {ρ : Env} {h : Store} {k : List Fr} {Q : X → Env → Store → Prop} (A : Env → Store → Prop) (ha : A ρ h) (hw : ∀ ρ h, A ρ h → Es P call es ls ρ h k Q) : Es P call es ls ρ h k Q := hw ρ h ha
theorem Af_abs {P : Program} {call : Nat → V → Store → Rc} {d : Option Nat} {es : List Ev} {ls : List Nat} {ρ : Env} {k : List Fr} {Q : X → Env → Store → Prop} (r : Store → Rc) (h : Store) (A : Store → Prop) (ha : A h) (hw : ∀ h, A h → Af P call (r h) d es ls ρ k Q) : Af P call (r h) d es ls ρ k Q := hw h ha
theorem Sl.nc {h : Store} {sz : Nat} {v : V} {n : Nat} {f : Nat → V} (x : Sl h sz v n f) : ncell v = 1 ∧ cellAt v 0 = v ∧ cellsOf v = .cons v .nil := by
  rcases x.is with ⟨q, _⟩ | ⟨_, _, _, _, _, _, q, _⟩ <;> rw [q] <;> exact ⟨rfl, rfl, rfl⟩
theorem storeObj_if (k sz id gen idx off : Nat) (x : V) (h : Store) (n : Nat) (el : Tr) (h1 : idx < n) (h2 : off + k ≤ sz) (h4 : 1 ≤ k) :
    storeObj k sz id gen idx off x h (.seq gen sz n el) = ifB (Nat.beq (ncell x) k) (.ok .undef (h.put id (.seq gen sz n (vput (newEl k sz (vget el (idx + 1)) off x) el (idx + 1))))) := by
  rw [storeObj_seq, bothB_eq, bothB_eq, bothB_eq, bothB_eq, bothB_eq, blt_iff, decide_eq_true h1, Nat.ble_eq_true_of_le (show Nat.add off k ≤ sz from h2), Nat.ble_eq_true_of_le h4]
  simp
theorem fillT_if (ρ : Env) (sz i : Nat) (x : RX) (qs : List (Nat × RX)) (el : Tr) (k : Tr → Rc) : fillT ρ sz ((i, x) :: qs) el k = ifB (Nat.beq (ncell (rd ρ x)) sz) (fillT ρ sz qs (vput (rd ρ x) el (i + 1)) k) := rfl
theorem fillW_if (ρ : Env) (i n : Nat) (x : RX) (ps : List (Nat × Nat × RX)) (cs : V) (k : V → Rc) : fillW ρ ((i, n, x) :: ps) cs k = ifB (Nat.beq (ncell (rd ρ x)) n) (fillW ρ ps (vover n cs (cellsOf (rd ρ x)) i) k) := rfl
theorem get_push_eq (h : Store) (ob : Ob) (j : Nat) (h1 : j ≤ h.next) (h2 : h.next ≤ j) : (h.push ob).get j = ob := by
  obtain rfl : j = h.next := by omega
  exact get_push_new h ob
abbrev Rg (z : Int) : Prop := -9223372036854775808 ≤ z ∧ z < 9223372036854775808
theorem Sl.pos {h : Store} {sz : Nat} {v : V} {n : Nat} {f : Nat → V} (x : Sl h sz v n f) (hn : 0 < n) :
    ∃ id gen off cap size el, v = .sl sz id gen off n cap ∧ id < h.next ∧ h.get id = .seq gen sz size el ∧ off + n ≤ size ∧ (∀ c, cap = c + 1 → n ≤ c ∧ off + c ≤ size) ∧ ∀ i, i < n → vget el (off + i + 1) = f i := by
  rcases x.is with ⟨rfl, rfl⟩ | q
  · omega
  · exact q
theorem getD_get {α : Type} (l : List α) (i : Nat) (d : α) (h : i < l.length) : l.getD i d = l[i] := by simp [List.getD_eq_getElem?_getD, h]
/-- v is a slice of n cells, f 0.., that belong to somebody else: read only -/
structure Fl (h : Store) (v : V) (n : Nat) (f : Nat → V) : Prop where
  is : (v = .nils ∧ n = 0) ∨ ∃ id gen off cap size el, v = .sl 1 id gen off n cap ∧ id < h.next ∧ h.get id = .far gen 1 size el ∧ off + n ≤ size ∧ ∀ i, i < n → vget el (off + i + 1) = f i
theorem Fl.fr0 {h h' : Store} {v : V} {n : Nat} {f : Nat → V} (x : Fl h v n f) (y : Hf h h' noS) : Fl h' v n f := by
  rcases x.is with q | ⟨id, gen, off, cap, size, el, q1, q2, q3, q4⟩
  · exact ⟨.inl q⟩
  · exact ⟨.inr ⟨id, gen, off, cap, size, el, q1, Nat.lt_of_lt_of_le q2 y.le, by rw [y.get id q2 (fun q => q)]; exact q3, q4⟩⟩
theorem Fl.pos {h : Store} {v : V} {n : Nat} {f : Nat → V} (x : Fl h v n f) (hn : 0 < n) :
    ∃ id gen off cap size el, v = .sl 1 id gen off n cap ∧ id < h.next ∧ h.get id = .far gen 1 size el ∧ off + n ≤ size ∧ True ∧ ∀ i, i < n → vget el (off + i + 1) = f i := by
  rcases x.is with ⟨rfl, rfl⟩ | ⟨id, gen, off, cap, size, el, q1, q2, q3, q4, q5⟩
  · omega
  · exact ⟨id, gen, off, cap, size, el, q1, q2, q3, q4, trivial, q5⟩
theorem Fl.len {h : Store} {v : V} {n : Nat} {f : Nat → V} (x : Fl h v n f) (h' : Store) (hn : n < 9223372036854775808) : lenV v h' = .ok (I (n : Int)) h' := by
  rcases x.is with ⟨rfl, rfl⟩ | ⟨id, gen, off, cap, size, el, rfl, _⟩
  · exact lenV_nil h'
  · exact lenV_s _ _ _ _ _ _ _ hn
/-- append of one element, laid just before -/
theorem Sl.app1 {h : Store} {sz bytes : Nat} {s : V} {n : Nat} {f : Nat → V} (hs : Sl h sz s n f) (x z : V) (hb : (n + 1) * bytes ≤ 140737488355328) (hn : n + 1 ≤ 4611686018427387904) :
    ∃ s' h', appendV sz bytes s (.sl sz h.next 0 0 1 2) (h.push (.seq 0 sz 1 (vput x (vfull z 1 1) 1))) = .ok s' h' ∧ Sl h' sz s' (n + 1) (fun i => if i < n then f i else x) ∧ Hf h h' (isId s) ∧ (∀ j, isId s' j → isId s j ∨ h.next < j) ∧ h.next < h'.next := by
  have f1 : Hf h (h.push (.seq 0 sz 1 (vput x (vfull z 1 1) 1))) noS := Hf.push _ _ _
  have hx : Sl (h.push (.seq 0 sz 1 (vput x (vfull z 1 1) 1))) sz (.sl sz h.next 0 0 1 2) 1 (fun _ => x) :=
    ⟨.inr ⟨h.next, 0, 0, 2, 1, _, rfl, by rw [next_push]; omega, get_push_new _ _, by omega, (fun c hc => by cases hc; omega), fun i hi => by
      obtain rfl : i = 0 := by omega
      exact vget_same _ _ _ (by omega)⟩⟩
  obtain ⟨s', h2, e1, s1, f2, i1⟩ := Sl.app (bytes := bytes) (hs.fr0 f1) hx (by omega) hb hn
  have le := f2.le
  rw [next_push] at le
  exact ⟨s', h2, e1, s1, (f1.mono fun _ _ q => q.elim).trans f2, fun j hj => (i1 j hj).imp (fun q => q) (fun q => by have := q.1; rw [next_push] at this; omega), by omega⟩
/-- v[lo:hi] -/
theorem cutV_s0 (sz id gen off len lo : Nat) (hi : Option Nat) (h : Store) (h1 : lo ≤ hi.getD len) (h2 : hi.getD len ≤ len) : cutV lo hi none (.sl sz id gen off len 0) h = .ok (.sl sz id gen (off + lo) (hi.getD len - lo) 0) h := by
  show ifB (bothB (Nat.ble lo (Option.getD hi len)) (bothB (Nat.ble (Option.getD hi len) len) (Nat.ble len len))) _ = _
  rw [Nat.ble_eq_true_of_le h1, Nat.ble_eq_true_of_le h2, Nat.ble_eq_true_of_le (Nat.le_refl len)]; rfl
theorem cutV_s1 (sz id gen off len c lo : Nat) (hi : Option Nat) (h : Store) (h1 : lo ≤ hi.getD len) (h2 : hi.getD len ≤ c) : cutV lo hi none (.sl sz id gen off len (c + 1)) h = .ok (.sl sz id gen (off + lo) (hi.getD len - lo) (c - lo + 1)) h := by
  show ifB (bothB (Nat.ble lo (Option.getD hi len)) (bothB (Nat.ble (Option.getD hi len) c) (Nat.ble c c))) _ = _
  rw [Nat.ble_eq_true_of_le h1, Nat.ble_eq_true_of_le h2, Nat.ble_eq_true_of_le (Nat.le_refl c)]; rfl
theorem Sl.cut {h : Store} {sz : Nat} {v : V} {n : Nat} {f : Nat → V} (x : Sl h sz v n f) (lo : Nat) (hi : Option Nat) (h1 : lo ≤ hi.getD n) (h2 : hi.getD n ≤ n) :
    szIs sz v = true ∧ ∃ v', (∀ h', cutV lo hi none v h' = .ok v' h') ∧ Sl h sz v' (hi.getD n - lo) (fun i => f (lo + i)) ∧ ∀ j, isId v' j → isId v j := by
  rcases x.is with ⟨rfl, rfl⟩ | ⟨id, gen, off, cap, size, el, rfl, q2, q3, q4, q5, q6⟩
  · refine ⟨rfl, .nils, fun h' => ?_, ⟨.inl ⟨rfl, by omega⟩⟩, fun j hj => hj⟩
    have e1 : hi.getD 0 = 0 := by omega
    have e2 : lo = 0 := by omega
    subst e2
    show ifB (bothB (Nat.beq 0 0) (bothB (Nat.beq (Option.getD hi 0) 0) (Nat.beq (Option.getD none 0) 0))) _ = _
    rw [e1]; rfl
  · refine ⟨by show Nat.beq sz sz = true; simp, ?_⟩
    have key : ∀ i, i < hi.getD n - lo → vget el (off + lo + i + 1) = f (lo + i) := fun i hi' => by rw [← q6 (lo + i) (by omega)]; congr 1; omega
    cases cap with
    | zero => exact ⟨_, fun h' => cutV_s0 _ _ _ _ _ _ _ h' h1 h2, ⟨.inr ⟨id, gen, off + lo, 0, size, el, rfl, q2, q3, by omega, (fun c hc => by omega), key⟩⟩, fun j ⟨_, _, _, _, _, q⟩ => by cases q; exact ⟨_, _, _, _, _, rfl⟩⟩
    | succ c =>
      obtain ⟨c1, c2⟩ := q5 c rfl
      exact ⟨_, fun h' => cutV_s1 _ _ _ _ _ _ _ _ h' h1 (by omega), ⟨.inr ⟨id, gen, off + lo, c - lo + 1, size, el, rfl, q2, q3, by omega, (fun c' hc => by omega), key⟩⟩, fun j ⟨_, _, _, _, _, q⟩ => by cases q; exact ⟨_, _, _, _, _, rfl⟩⟩
end
end Go.Proofs.Ytglhpnieiphahaa.D
