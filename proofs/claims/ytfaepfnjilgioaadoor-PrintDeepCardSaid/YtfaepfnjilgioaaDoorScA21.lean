/-
  Rules: equality of structs and arrays; cases; maps; package variables; make.
-/
import Derived.Test.YtfaepfnjilgioaaDoorScA20
set_option linter.all false
set_option linter.unusedSimpArgs false
set_option linter.unusedVariables false
namespace Go.Abs
open Go

/-! ### equality, cell by cell -/
theorem eqIn_int {P : Program} {d t : Nat} {k k' : IntKind} {a b : Int} {w : World} (h : P.underlying t = some (.int k')) : (Op.equalIn (d + 1) t (.int k a) (.int k b)).run P w = .ok (a == b) w := by
  unfold Op.equalIn
  simp only [Sem.run_bind, run_underlying h, Result.andThen]
  simp
theorem eqIn_str {P : Program} {d t : Nat} {a b : ByteArray} {w : World} (h : P.underlying t = some .string) : (Op.equalIn (d + 1) t (.string a) (.string b)).run P w = .ok (a == b) w := by
  unfold Op.equalIn
  simp only [Sem.run_bind, run_underlying h, Result.andThen]
  simp
theorem eqIn_bool {P : Program} {d t : Nat} {a b : Bool} {w : World} (h : P.underlying t = some .bool) : (Op.equalIn (d + 1) t (.bool a) (.bool b)).run P w = .ok (a == b) w := by
  unfold Op.equalIn
  simp only [Sem.run_bind, run_underlying h, Result.andThen]
  simp

theorem forIn_all {P : Program} {α : Type} (body : α → Option Bool × PUnit → Sem (ForInStep (Option Bool × PUnit))) : ∀ (L : List α) (bs : List Bool),
    All2 (fun x b => ∀ w, (body x (none, ⟨⟩)).run P w = .ok (if b then .yield (none, ⟨⟩) else .done (some false, ⟨⟩)) w) L bs →
    ∀ w, (forIn L (none, PUnit.unit) body : Sem (Option Bool × PUnit)).run P w = .ok (if bs.all id then (none, ⟨⟩) else (some false, ⟨⟩)) w
  | [], [], _, w => by simp
  | x :: L, b :: bs, h, w => by
    rw [List.forIn_cons, Sem.run_bind, h.1 w]
    cases b with
    | true =>
      simp only [if_true, Result.andThen, List.all_cons, id, Bool.true_and]
      exact forIn_all body L bs h.2 w
    | false => simp [Result.andThen]
  | [], _ :: _, h, _ => h.elim
  | _ :: _, [], h, _ => h.elim

/-- two parts compared -/
def PartEq (P : Program) (d t : Nat) (xs ys : Array Value) (off : Nat) (b : Bool) : Prop :=
  ∀ w, ∃ u v, (part t xs off).run P w = .ok u w ∧ (part t ys off).run P w = .ok v w ∧ (Op.equalIn d t u v).run P w = .ok b w

theorem PartEq.cell {P : Program} {d t : Nat} {xs ys : Array Value} {off : Nat} {b : Bool} {u v : Value} (ha : ∀ w, (isAgg t).run P w = .ok false w) (hx : xs[off]? = some u) (hy : ys[off]? = some v)
    (he : ∀ w, (Op.equalIn d t u v).run P w = .ok b w) : PartEq P d t xs ys off b := fun w => ⟨u, v, by simp [part, Sem.run_bind, ha, Result.andThen, hx], by simp [part, Sem.run_bind, ha, Result.andThen, hy], he w⟩
theorem PartEq.agg {P : Program} {d t m : Nat} {xs ys us vs : Array Value} {off : Nat} {b : Bool} (ha : ∀ w, (isAgg t).run P w = .ok true w) (hs : ∀ w, (sizeOf t).run P w = .ok m w) (hx : xs.extract off (off + m) = us) (hy : ys.extract off (off + m) = vs)
    (he : ∀ w, (Op.equalIn d t (.agg us) (.agg vs)).run P w = .ok b w) : PartEq P d t xs ys off b := fun w => ⟨.agg us, .agg vs, by simp [part, Sem.run_bind, ha, hs, Result.andThen, hx], by simp [part, Sem.run_bind, ha, hs, Result.andThen, hy], he w⟩

theorem eqIn_struct {P : Program} {d t : Nat} {fs : Array Field} {xs ys : Array Value} {bs : List Bool} (hu : P.underlying t = some (.struct fs)) (hh : P.stoodInHeld t = false)
    (h : All2 (fun (f : Field) b => f.name ≠ "_" ∧ PartEq P d f.type xs ys f.offset b) fs.toList bs) (w : World) : (Op.equalIn (d + 1) t (.agg xs) (.agg ys)).run P w = .ok (bs.all id) w := by
  rw [Op.equalIn]
  simp only [Sem.run_bind, run_underlying hu, Result.andThen, run_program, hh]
  simp only [Bool.false_eq_true, if_false]
  rw [Sem.run_bind, ← Array.forIn_toList]
  rw [forIn_all (P := P) _ fs.toList bs (by
    refine h.mono fun f b hf w' => ?_
    obtain ⟨hn, hp⟩ := hf
    obtain ⟨u, v, h1, h2, h3⟩ := hp w'
    rw [if_pos hn]
    simp only [Sem.run_bind, h1, h2, h3, Result.andThen]
    cases b <;> simp)]
  cases bs.all id <;> simp [Result.andThen]

theorem eqIn_array {P : Program} {d t e len m : Nat} {xs ys : Array Value} {bs : List Bool} (hu : P.underlying t = some (.array len e)) (hs : ∀ w, (sizeOf e).run P w = .ok m w)
    (h : All2 (fun (i : Nat) b => PartEq P d e xs ys (i * m) b) (List.range' 0 len) bs) (w : World) : (Op.equalIn (d + 1) t (.agg xs) (.agg ys)).run P w = .ok (bs.all id) w := by
  rw [Op.equalIn]
  simp only [Sem.run_bind, run_underlying hu, Result.andThen, hs]
  rw [Std.Legacy.Range.forIn_eq_forIn_range']
  simp only [Std.Legacy.Range.size, Nat.sub_zero, Nat.add_sub_cancel, Nat.div_one]
  rw [forIn_all (P := P) _ (List.range' 0 len) bs (by
    refine h.mono fun i b hp w' => ?_
    obtain ⟨u, v, h1, h2, h3⟩ := hp w'
    simp only [Sem.run_bind, h1, h2, h3, Result.andThen]
    cases b <;> simp)]
  cases bs.all id <;> simp [Result.andThen]

theorem rep_vals {G : Frz} : ∀ {vs us : List Value}, All2 (RepP G) (vs.map .v) us → us = vs
  | [], [], _ => rfl
  | _ :: _, _ :: _, h => by
    have h1 := h.1
    cases h1
    rw [rep_vals h.2]
  | [], _ :: _, h => h.elim
  | _ :: _, [], h => h.elim

section
variable {P : Program} {ops : Array Oper} {n : Nat} {os : List Oper} {F : Facts} {B : BL} {evs : List Ev} {K : FF → BF → List Ev → Prop}
variable {d t u ty : Nat} {x y z : Operand} {pos : String} {aft : Array Edge} {g : Option (Nat × Bool)}

theorem guard_agg {op : BinOp} {a b : Array Value} (hgt : P.eqGuardType P.depth t = false) (w : World) : (eqGuard op t x y (.agg a) (.agg b)).run P w = .ok () w := by
  unfold eqGuard
  cases op <;> simp [hgt, Sem.run_bind, Result.andThen]

theorem R.eqlA {va vb : List Value} (b : Bool) (hgt : P.eqGuardType P.depth t = false) (he : ∀ w, (Op.equalIn 10000 t (.agg va.toArray) (.agg vb.toArray)).run P w = .ok b w)
    (hg : GOk ops F ⟨some d, .binOp .eql t x y u, ty, pos, aft, g⟩ false) (hd : Nat.blt d n = true) (hx : ov F.fn x = some (vA (va.map .v))) (hy : ov F.fn y = some (vA (vb.map .v)))
    (h : Run P ops n os ((d, vB b) :: F) B (evs ++ [ev0 ⟨some d, .binOp .eql t x y u, ty, pos, aft, g⟩ [(x, vA (va.map .v)), (y, vA (vb.map .v))] (vB b)]) K) :
    Run P ops n (⟨some d, .binOp .eql t x y u, ty, pos, aft, g⟩ :: os) F B evs K := by
  refine Run.pure d [(x, vA (va.map .v)), (y, vA (vb.map .v))] _ hg rfl hd ⟨hx, hy, trivial⟩ (fun G ν ρ w _ hr => ⟨.bool b, ?_, rep_v' rfl⟩) h
  obtain ⟨us, e1, h1⟩ := hr.1
  obtain ⟨vs, e2, h2⟩ := hr.2.1
  have h1' := rep_vals h1
  have h2' := rep_vals h2
  have e3 : us = va.toArray := by rw [← h1']
  have e4 : vs = vb.toArray := by rw [← h2']
  have hb : ∀ a b : Array Value, binOp .eql t (.agg a) (.agg b) = (do pure (.bool (← Op.equal t (.agg a) (.agg b)))) := fun _ _ => rfl
  have he' : ∀ w, (Op.equal t (.agg va.toArray) (.agg vb.toArray)).run P w = .ok b w := he
  simp only [execOp, e1, e2, e3, e4]
  simp only [Sem.run_bind, guard_agg hgt, Result.andThen, hb, he', Sem.run_pure]

theorem R.neqA {va vb : List Value} (b : Bool) (hgt : P.eqGuardType P.depth t = false) (he : ∀ w, (Op.equalIn 10000 t (.agg va.toArray) (.agg vb.toArray)).run P w = .ok b w)
    (hg : GOk ops F ⟨some d, .binOp .neq t x y u, ty, pos, aft, g⟩ false) (hd : Nat.blt d n = true) (hx : ov F.fn x = some (vA (va.map .v))) (hy : ov F.fn y = some (vA (vb.map .v)))
    (h : Run P ops n os ((d, vB (!b)) :: F) B (evs ++ [ev0 ⟨some d, .binOp .neq t x y u, ty, pos, aft, g⟩ [(x, vA (va.map .v)), (y, vA (vb.map .v))] (vB (!b))]) K) :
    Run P ops n (⟨some d, .binOp .neq t x y u, ty, pos, aft, g⟩ :: os) F B evs K := by
  refine Run.pure d [(x, vA (va.map .v)), (y, vA (vb.map .v))] _ hg rfl hd ⟨hx, hy, trivial⟩ (fun G ν ρ w _ hr => ⟨.bool (!b), ?_, rep_v' rfl⟩) h
  obtain ⟨us, e1, h1⟩ := hr.1
  obtain ⟨vs, e2, h2⟩ := hr.2.1
  have h1' := rep_vals h1
  have h2' := rep_vals h2
  have e3 : us = va.toArray := by rw [← h1']
  have e4 : vs = vb.toArray := by rw [← h2']
  have hb : ∀ a b : Array Value, binOp .neq t (.agg a) (.agg b) = (do pure (.bool (!(← Op.equal t (.agg a) (.agg b))))) := fun _ _ => rfl
  have he' : ∀ w, (Op.equal t (.agg va.toArray) (.agg vb.toArray)).run P w = .ok b w := he
  simp only [execOp, e1, e2, e3, e4]
  simp only [Sem.run_bind, guard_agg hgt, Result.andThen, hb, he', Sem.run_pure]

/-! ### cases -/
theorem fn_cons_same {F : Facts} {d : Nat} {v : AV} (h : F.fn d = some v) : Facts.fn ((d, v) :: F) = F.fn := by
  funext s
  simp only [Facts.fn, look]
  split
  · rename_i e; subst e; exact h.symm
  · rfl

/-- a bool is known -/
theorem R.case (d : Nat) {c : Bool} (hd : F.fn d = some (vB c)) (ht : c = true → Run P ops n os ((d, vB true) :: F) B evs K) (hf : c = false → Run P ops n os ((d, vB false) :: F) B evs K) : Run P ops n os F B evs K := by
  cases c with
  | true => exact Run.conv (fn_cons_same hd) rfl (ht rfl)
  | false => exact Run.conv (fn_cons_same hd) rfl (hf rfl)

/-- a slot's value, spelt otherwise -/
theorem R.spell (d : Nat) {v v' : AV} (hd : F.fn d = some v) (e : v = v') (h : Run P ops n os ((d, v') :: F) B evs K) : Run P ops n os F B evs K := by
  subst e; exact Run.conv (fn_cons_same hd) rfl h

theorem J.condT {Q : Exit → FF → BF → Prop} {f : FF} {b : BF} {t : Tmp} {x y : Code} (hc : f t = some (vB true)) (h : J P n x Q f b) : J P n (.cond (.tmp t) x y) Q f b :=
  J.cond hc (fun _ => h) (fun h => by cases h)
theorem J.condF {Q : Exit → FF → BF → Prop} {f : FF} {b : BF} {t : Tmp} {x y : Code} (hc : f t = some (vB false)) (h : J P n y Q f b) : J P n (.cond (.tmp t) x y) Q f b :=
  J.cond hc (fun h => by cases h) (fun _ => h)

/-! ### package variables -/
/-- the variable's cell, read -/
theorem R.ldG {q : Obj} {κ gl : Nat} {cs : List PC} {c : PC} (ha : ∀ w, (isAgg t).run P w = .ok false w)
    (hg : GOk ops F ⟨some d, .load t (.global gl), ty, pos, aft, g⟩ false) (hd : Nat.blt d n = true) (hb : B.fn κ = some (.glob gl cs q)) (hc : cs[0]? = some c)
    (h : Run P ops n os ((d, vP c) :: F) B (evs ++ [⟨⟨some d, .load t (.global gl), ty, pos, aft, g⟩, false, [], [(κ, some (.glob gl cs q))], vP c, [(κ, some (.glob gl cs q))], [], true⟩]) K) :
    Run P ops n (⟨some d, .load t (.global gl), ty, pos, aft, g⟩ :: os) F B evs K := by
  refine Run.look d [(.global gl, vV (.pointer (some ⟨gl, 0, none⟩)))] κ (.glob gl cs q) _ hg rfl hd ⟨rfl, trivial⟩ hb ?_ h
  intro G ν ρ w hS hr hO
  have ex := rep_v hr.1
  obtain ⟨h0, hb', us, e, fr, rfl, hu⟩ := hO
  obtain ⟨u, h1, h2⟩ := hu.get 0 c hc
  refine ⟨u, ?_, h2⟩
  rw [h0] at hb'
  have hrun := run_loadVar1 (P := P) (t := t) (w := w) (a := ⟨gl, 0, none⟩) ha (cell_of_blk hb' (by simpa using h1))
  simp [execOp, ex, Instr.loadAt, run_sureAddr, Sem.run_bind, Result.andThen, hrun]

/-- a variable that holds a map -/
theorem R.ldGM {κ gl : Nat} {es : List (Value × SV)} {q : Obj} (ha : ∀ w, (isAgg t).run P w = .ok false w)
    (hg : GOk ops F ⟨some d, .load t (.global gl), ty, pos, aft, g⟩ false) (hd : Nat.blt d n = true) (hb : B.fn κ = some (.gmap gl es q))
    (h : Run P ops n os ((d, vC (.mp κ)) :: F) B (evs ++ [⟨⟨some d, .load t (.global gl), ty, pos, aft, g⟩, false, [], [(κ, some (.gmap gl es q))], vC (.mp κ), [(κ, some (.gmap gl es q))], [], true⟩]) K) :
    Run P ops n (⟨some d, .load t (.global gl), ty, pos, aft, g⟩ :: os) F B evs K := by
  refine Run.look d [(.global gl, vV (.pointer (some ⟨gl, 0, none⟩)))] κ (.gmap gl es q) _ hg rfl hd ⟨rfl, trivial⟩ hb ?_ h
  intro G ν ρ w hS hr hO
  have ex := rep_v hr.1
  obtain ⟨h1, _⟩ := hO
  refine ⟨.map (some (ν κ).1), ?_, rfl⟩
  have hrun := run_loadVar1 (P := P) (t := t) (w := w) (a := ⟨gl, 0, none⟩) ha (hS.cell h1)
  simp [execOp, ex, Instr.loadAt, run_sureAddr, Sem.run_bind, Result.andThen, hrun]

/-! ### maps -/
theorem R.mkMap (hg : GOk ops F ⟨some d, .makeMap t none, ty, pos, aft, g⟩ false) (hd : Nat.blt d n = true)
    (h : Run P ops n os ((d, vC (.mp d)) :: F) ((d, some (.mapo [])) :: B) (evs ++ [⟨⟨some d, .makeMap t none, ty, pos, aft, g⟩, false, [], [], vC (.mp d), [(d, some (.mapo []))], [d], false⟩]) K) :
    Run P ops n (⟨some d, .makeMap t none, ty, pos, aft, g⟩ :: os) F B evs K := by
  refine Run.op [] [] (B1 d (.mapo [])) (vC (.mp d)) [d] false hg (fun d' h' => by cases h'; simpa using hd) trivial (fun κ x h => (noB h).elim) (fun κ x h => (noB h).elim)
    (fun h => by cases h) ?_ (by simpa [Ev.F, Ev.B, B1, opFs] using h)
  intro G ν a w hS hr hB
  have hrun : (execOp a.eval ⟨some d, .makeMap t none, ty, pos, aft, g⟩).run P w = .ok (.value (.map (some w.heap.size))) (layBlk w (.map #[] 0)) := by
    simp [execOp, Instr.makeMap, Sem.run_bind, Result.andThen, layBlk]
  unfold Oper.wp
  rw [hrun]
  have hlt : w.heap.size < (layBlk w (.map #[] 0)).heap.size := by simp [layBlk]
  refine ⟨G, ν.set d (w.heap.size, 0), _, rfl, ?_, hS.lay _, B1_sat ?_ ?_ ?_, Keep.lay _ _ _ _, fun κ hκ => Pl.set_ne _ _ (by simpa using hκ), fun κ o h _ => ?_⟩
  · simp only [RepV, RepS, RepC, Pl.set_self]
  · exact ⟨#[], 0, by rw [Pl.set_self, layBlk_get]; simp, trivial⟩
  · intro _; rw [Pl.set_self]; exact hS.fresh (Nat.le_refl _)
  · intro _; rw [Pl.set_self]; exact hlt
  · obtain ⟨rfl, rfl⟩ := B1_fn h
    right; rw [Pl.set_self]; exact Nat.le_refl _

/-- keys told apart: of the same kind -/
def keyEq : Value → Value → Option Bool
  | .int k a, .int k' b => if k = k' then some (a == b) else none
  | .string a, .string b => some (a == b)
  | _, _ => none
def mfind (k : Value) : List (Value × SV) → Option (Option (Nat × SV))
  | [] => some none
  | p :: es => match keyEq k p.1 with
    | some true => some (some (0, p.2))
    | some false => (mfind k es).map (·.map fun q => (q.1 + 1, q.2))
    | none => none

def keyDesc : TypeDesc → Value → Bool
  | .int _, .int _ _ => true
  | .string, .string _ => true
  | _, _ => false

theorem findNow_of {de : TypeDesc} {G : Frz} {ν : Pl} {k : Value} (hd : keyDesc de k = true) : ∀ {es : List (Value × SV)} {ents : List MapEntry} {i : Nat} {r : Option (Nat × SV)}, RepM G ν es ents → mfind k es = some r →
    ∃ r' : Option (Nat × Value), Instr.findNow de k ents i = some r' ∧ (match r, r' with | none, none => True | some (j, x), some (j', v) => j' = i + j ∧ RepS G ν x v | _, _ => False)
  | [], [], i, r, _, h => by simp [mfind] at h; subst h; exact ⟨none, rfl, trivial⟩
  | p :: es, e :: ents, i, r, hr, h => by
    have hsame : Instr.sameNow de k e.key = keyEq k p.1 := by
      rw [hr.1.1]
      revert hd
      cases de <;> cases k <;> simp only [keyDesc] <;> intro hd <;> first | (cases p.1 <;> rfl) | exact hd.elim | cases hd
    simp only [Instr.findNow, hsame]
    simp only [mfind] at h
    cases hk : keyEq k p.1 with
    | none => rw [hk] at h; simp at h
    | some b =>
      rw [hk] at h
      cases b with
      | true =>
        simp only [Option.some.injEq] at h
        subst h
        exact ⟨some (i, e.val), rfl, rfl, hr.1.2⟩
      | false =>
        simp only at h
        cases hm : mfind k es with
        | none => rw [hm] at h; simp at h
        | some r₀ =>
          rw [hm] at h
          simp only [Option.map_some, Option.some.injEq] at h
          obtain ⟨r', h1, h2⟩ := findNow_of hd (i := i + 1) hr.2 hm
          refine ⟨r', h1, ?_⟩
          cases r₀ with
          | none =>
            simp at h; subst h
            cases r' with
            | none => trivial
            | some _ => exact h2.elim
          | some q =>
            simp at h; subst h
            cases r' with
            | none => exact h2.elim
            | some q' => exact ⟨by have := h2.1; omega, h2.2⟩
  | [], _ :: _, _, _, h, _ => h.elim
  | _ :: _, [], _, _, h, _ => h.elim

theorem run_checkKey {key : Nat} {k : Value} {de : TypeDesc} {w : World} {b : Bool} (hu : P.underlying key = some de) (hd : keyDesc de k = true) : (Instr.checkKey b 10000 key k).run P w = .ok () w := by
  rw [show (10000 : Nat) = 9999 + 1 from rfl, Instr.checkKey]
  simp only [Sem.run_bind, run_underlying hu, Result.andThen]
  revert hd
  cases de <;> cases k <;> simp only [keyDesc] <;> intro hd <;> first | rfl | exact hd.elim | cases hd

/-- are a map's keys told apart, and like k? -/
def keysApart (k : Value) : List (Value × SV) → Bool
  | [] => true
  | p :: es => (match keyEq k p.1 with
    | some true => es.all fun q => keyEq k q.1 == some false
    | some false => keysApart k es
    | none => false)

/-- a map's value -/
def mapVal (k : Value) (o : AO) : Option (List (Value × SV)) := match o with
  | .mapo es => some es
  | .gmap _ es _ => if keysApart k es then some es else none
  | _ => none

theorem mfind_none {k : Value} : ∀ {es : List (Value × SV)}, (∀ p ∈ es, keyEq k p.1 = some false) → mfind k es = some none
  | [], _ => rfl
  | p :: es, h => by
    rw [mfind, h p List.mem_cons_self]
    simp only
    rw [mfind_none fun q hq => h q (List.mem_cons_of_mem _ hq)]; rfl
theorem mfind_of {k : Value} : ∀ {es : List (Value × SV)} {r : Option (Nat × SV)}, keysApart k es = true → mfind k es = some r →
    (∀ p ∈ es, keyEq k p.1 = some true ∨ keyEq k p.1 = some false) ∧ (match r with | none => ∀ p ∈ es, keyEq k p.1 = some false | some (_, x) => (∃ p ∈ es, keyEq k p.1 = some true ∧ p.2 = x) ∧ ∀ p ∈ es, keyEq k p.1 = some true → p.2 = x)
  | [], r, _, h => by simp [mfind] at h; subst h; simp
  | p :: es, r, ha, h => by
    rw [mfind] at h
    rw [keysApart] at ha
    cases hk : keyEq k p.1 with
    | none => rw [hk] at h; simp at h
    | some b =>
      rw [hk] at h ha
      cases b with
      | true =>
        simp only [Option.some.injEq] at h
        subst h
        have hall : ∀ q ∈ es, keyEq k q.1 = some false := fun q hq => by simpa using List.all_eq_true.1 ha q hq
        refine ⟨fun q hq => ?_, ⟨p, List.mem_cons_self, hk, rfl⟩, fun q hq e => ?_⟩
        · rcases List.mem_cons.1 hq with rfl | hq
          · exact Or.inl hk
          · exact Or.inr (hall q hq)
        · rcases List.mem_cons.1 hq with rfl | hq
          · rfl
          · rw [hall q hq] at e; cases e
      | false =>
        simp only at h ha
        cases hm : mfind k es with
        | none => rw [hm] at h; simp at h
        | some r₀ =>
          rw [hm] at h
          simp only [Option.map_some, Option.some.injEq] at h
          obtain ⟨h1, h2⟩ := mfind_of ha hm
          refine ⟨fun q hq => ?_, ?_⟩
          · rcases List.mem_cons.1 hq with rfl | hq
            · exact Or.inr hk
            · exact h1 q hq
          · cases r₀ with
            | none =>
              simp at h; subst h
              intro q hq
              rcases List.mem_cons.1 hq with rfl | hq
              · exact hk
              · exact h2 q hq
            | some x =>
              simp at h; subst h
              obtain ⟨⟨q, g1, g2, g3⟩, g4⟩ := h2
              exact ⟨⟨q, List.mem_cons_of_mem _ g1, g2, g3⟩, fun q' hq' e => by
                rcases List.mem_cons.1 hq' with rfl | hq'
                · rw [hk] at e; cases e
                · exact g4 q' hq' e⟩
theorem mfind_some {k : Value} {x : SV} : ∀ {es : List (Value × SV)}, (∀ p ∈ es, keyEq k p.1 = some true ∨ keyEq k p.1 = some false) → (∃ p ∈ es, keyEq k p.1 = some true) → (∀ p ∈ es, keyEq k p.1 = some true → p.2 = x) →
    ∃ i, mfind k es = some (some (i, x))
  | [], _, h, _ => by simp at h
  | p :: es, h1, h2, h3 => by
    rcases h1 p List.mem_cons_self with h | h
    · exact ⟨0, by rw [mfind, h]; simp only; rw [h3 p List.mem_cons_self h]⟩
    · obtain ⟨i, hi⟩ := mfind_some (es := es) (fun q hq => h1 q (List.mem_cons_of_mem _ hq))
        (by
          obtain ⟨q, hq, e⟩ := h2
          rcases List.mem_cons.1 hq with rfl | hq
          · rw [h] at e; cases e
          · exact ⟨q, hq, e⟩)
        (fun q hq => h3 q (List.mem_cons_of_mem _ hq))
      exact ⟨i + 1, by rw [mfind, h]; simp only; rw [hi]; rfl⟩
theorem RepU.list {G : Frz} {ν : Pl} {es : List (Value × SV)} : ∀ {ents : List MapEntry}, (∀ e ∈ ents, ∃ p ∈ es, e.key = p.1 ∧ RepS G ν p.2 e.val) → ∃ es', RepM G ν es' ents ∧ ∀ p ∈ es', p ∈ es
  | [], _ => ⟨[], trivial, by simp⟩
  | e :: ents, h => by
    obtain ⟨p, hp, h1, h2⟩ := h e List.mem_cons_self
    obtain ⟨es', h3, h4⟩ := RepU.list (ents := ents) fun e he => h e (List.mem_cons_of_mem _ he)
    exact ⟨p :: es', ⟨⟨h1, h2⟩, h3⟩, fun q hq => by
      rcases List.mem_cons.1 hq with rfl | hq
      · exact hp
      · exact h4 q hq⟩
theorem RepM.keyIn {G : Frz} {ν : Pl} : ∀ {es : List (Value × SV)} {ents : List MapEntry}, RepM G ν es ents → ∀ e ∈ ents, ∃ p ∈ es, e.key = p.1
  | p :: es, e :: ents, h, x, hx => by
    rcases List.mem_cons.1 hx with rfl | hx
    · exact ⟨p, List.mem_cons_self, h.1.1⟩
    · obtain ⟨q, h1, h2⟩ := RepM.keyIn (es := es) (ents := ents) h.2 x hx
      exact ⟨q, List.mem_cons_of_mem _ h1, h2⟩
  | [], [], _, x, hx => by simp at hx
  | [], _ :: _, h, _, _ => h.elim
  | _ :: _, [], h, _, _ => h.elim

theorem mapVal_sat {G : Frz} {ν : Pl} {w : World} {κ : Key} {o : AO} {k : Value} {es : List (Value × SV)} {r : Option (Nat × SV)} (h : mapVal k o = some es) (hf : mfind k es = some r) (hO : SatO G ν w κ o) :
    ∃ ents clock es' r', w.heap[(ν κ).1]? = some (.map ents clock) ∧ RepM G ν es' ents.toList ∧ mfind k es' = some r' ∧ r'.map (·.2) = r.map (·.2) := by
  cases o <;> simp only [mapVal, Option.some.injEq] at h
  · cases h
  · cases h
  · cases h
  · cases h
  · subst h
    obtain ⟨ents, clock, h1, h2⟩ := hO
    exact ⟨ents, clock, _, r, h1, h2, hf, rfl⟩
  · cases h
  · split at h
    · rename_i ha
      simp only [Option.some.injEq] at h
      subst h
      obtain ⟨_, h1, ents, clock, rfl, hU⟩ := hO
      obtain ⟨es', h3, h4⟩ := RepU.list hU.1
      obtain ⟨g1, g2⟩ := mfind_of ha hf
      cases r with
      | none => exact ⟨ents, clock, es', none, h1, h3, mfind_none fun p hp => g2 p (h4 p hp), rfl⟩
      | some q =>
        obtain ⟨⟨p, p1, p2, p3⟩, g4⟩ := g2
        have hex : ∃ p ∈ es', keyEq k p.1 = some true := by
          obtain ⟨e, he, hk, _⟩ := hU.2 p p1
          obtain ⟨p', q1, q2⟩ := h3.keyIn e he
          exact ⟨p', q1, by rw [← q2, hk]; exact p2⟩
        obtain ⟨i, hi⟩ := mfind_some (x := q.2) (fun p hp => g1 p (h4 p hp)) hex fun p hp e => g4 p (h4 p hp) e
        exact ⟨ents, clock, es', some (i, q.2), h1, h3, hi, rfl⟩
    · cases h

theorem run_getObj {w : World} {r : Nat} {ents : Array MapEntry} {clock : Nat} (h : w.heap[r]? = some (.map ents clock)) : (getObj r).run P w = .ok (.map ents clock) w := by
  simp [getObj, Sem.run, h]

theorem run_lookup {mt key elem : Nat} {de : TypeDesc} {zv : Value} {G : Frz} {ν : Pl} {w : World} {κ : Key} {o : AO} {es : List (Value × SV)} {k : Value} {ok : Bool} (hu : P.underlying mt = some (.map key elem)) (hk : P.underlying key = some de) (hd : keyDesc de k = true)
    (hz : ∀ w, (zeroValue elem).run P w = .ok zv w) (hm : mapVal k o = some es) (hO : SatO G ν w κ o) {r : Option (Nat × SV)} (hf : mfind k es = some r) :
    ∃ v, (Instr.lookup mt (.map (some (ν κ).1)) k ok).run P w = .ok (if ok then .tuple #[v, .bool r.isSome] else v) w ∧ (match r with | none => v = zv | some (_, x) => RepS G ν x v) := by
  obtain ⟨ents, clock, es', r₁, h1, h2, hf', hr⟩ := mapVal_sat hm hf hO
  obtain ⟨r', h3, h4⟩ := findNow_of (G := G) (ν := ν) hd (i := 0) h2 hf'
  have hfk : (Instr.findKey key k ents.toList).run P w = .ok r' w := by
    simp [Instr.findKey, Sem.run_bind, run_underlying hk, Result.andThen, h3]
  cases r with
  | none =>
    cases r₁ with
    | some _ => simp at hr
    | none =>
    cases r' with
    | some _ => exact h4.elim
    | none =>
      refine ⟨zv, ?_, rfl⟩
      simp [Instr.lookup, Sem.run_bind, run_underlying hu, Result.andThen, run_getObj h1, run_checkKey hk hd, hfk, hz]
  | some q =>
    cases r₁ with
    | none => simp at hr
    | some q₁ =>
    simp only [Option.map_some, Option.some.injEq] at hr
    cases r' with
    | none => exact h4.elim
    | some q' =>
      refine ⟨q'.2, ?_, by have := h4.2; rw [hr] at this; exact this⟩
      simp [Instr.lookup, Sem.run_bind, run_underlying hu, Result.andThen, run_getObj h1, run_checkKey hk hd, hfk]

/-- v, ok := m[k], where it is -/
theorem R.lookT {κ key elem i : Nat} {de : TypeDesc} {zv k : Value} {o : AO} {es : List (Value × SV)} {v : SV} (hu : P.underlying t = some (.map key elem)) (hk : P.underlying key = some de) (hd' : keyDesc de k = true) (hz : ∀ w, (zeroValue elem).run P w = .ok zv w)
    (hg : GOk ops F ⟨some d, .lookup t x y true, ty, pos, aft, g⟩ false) (hd : Nat.blt d n = true) (hx : ov F.fn x = some (vC (.mp κ))) (hy : ov F.fn y = some (vV k)) (hb : B.fn κ = some o) (hm : mapVal k o = some es) (hf : mfind k es = some (some (i, v)))
    (h : Run P ops n os ((d, .tup [v, .one (.p (.v (.bool true)))]) :: F) B (evs ++ [⟨⟨some d, .lookup t x y true, ty, pos, aft, g⟩, false, opFs [(x, vC (.mp κ)), (y, vV k)], [(κ, some o)], .tup [v, .one (.p (.v (.bool true)))], [(κ, some o)], [], true⟩]) K) :
    Run P ops n (⟨some d, .lookup t x y true, ty, pos, aft, g⟩ :: os) F B evs K := by
  refine Run.look d [(x, vC (.mp κ)), (y, vV k)] κ o _ hg rfl hd ⟨hx, hy, trivial⟩ hb (fun G ν ρ w hS hr hO => ?_) h
  have ex : ρ x = .map (some (ν κ).1) := hr.1
  have ey := rep_v hr.2.1
  obtain ⟨v', h1, h2⟩ := run_lookup (P := P) (ok := true) hu hk hd' hz hm hO hf
  refine ⟨_, ?_, #[v', .bool true], rfl, h2, .v _ rfl, trivial⟩
  simp [execOp, ex, ey, Sem.run_bind, Result.andThen, h1]

theorem R.lookF {κ key elem : Nat} {de : TypeDesc} {zv k : Value} {o : AO} {es : List (Value × SV)} {z : SV} (hu : P.underlying t = some (.map key elem)) (hk : P.underlying key = some de) (hd' : keyDesc de k = true) (hz : ∀ w, (zeroValue elem).run P w = .ok zv w)
    (hzz : ∀ G ν, RepS G ν z zv)
    (hg : GOk ops F ⟨some d, .lookup t x y true, ty, pos, aft, g⟩ false) (hd : Nat.blt d n = true) (hx : ov F.fn x = some (vC (.mp κ))) (hy : ov F.fn y = some (vV k)) (hb : B.fn κ = some o) (hm : mapVal k o = some es) (hf : mfind k es = some none)
    (h : Run P ops n os ((d, .tup [z, .one (.p (.v (.bool false)))]) :: F) B (evs ++ [⟨⟨some d, .lookup t x y true, ty, pos, aft, g⟩, false, opFs [(x, vC (.mp κ)), (y, vV k)], [(κ, some o)], .tup [z, .one (.p (.v (.bool false)))], [(κ, some o)], [], true⟩]) K) :
    Run P ops n (⟨some d, .lookup t x y true, ty, pos, aft, g⟩ :: os) F B evs K := by
  refine Run.look d [(x, vC (.mp κ)), (y, vV k)] κ o _ hg rfl hd ⟨hx, hy, trivial⟩ hb (fun G ν ρ w hS hr hO => ?_) h
  have ex : ρ x = .map (some (ν κ).1) := hr.1
  have ey := rep_v hr.2.1
  obtain ⟨v', h1, h2⟩ := run_lookup (P := P) (ok := true) hu hk hd' hz hm hO hf
  simp only at h2
  subst h2
  refine ⟨_, ?_, #[v', .bool false], rfl, hzz G ν, .v _ rfl, trivial⟩
  simp [execOp, ex, ey, Sem.run_bind, Result.andThen, h1]

/-- m[k], where it is -/
theorem R.look1 {κ key elem i : Nat} {de : TypeDesc} {zv k : Value} {o : AO} {es : List (Value × SV)} {v : SV} (hu : P.underlying t = some (.map key elem)) (hk : P.underlying key = some de) (hd' : keyDesc de k = true) (hz : ∀ w, (zeroValue elem).run P w = .ok zv w)
    (hg : GOk ops F ⟨some d, .lookup t x y false, ty, pos, aft, g⟩ false) (hd : Nat.blt d n = true) (hx : ov F.fn x = some (vC (.mp κ))) (hy : ov F.fn y = some (vV k)) (hb : B.fn κ = some o) (hm : mapVal k o = some es) (hf : mfind k es = some (some (i, v)))
    (h : Run P ops n os ((d, .s v) :: F) B (evs ++ [⟨⟨some d, .lookup t x y false, ty, pos, aft, g⟩, false, opFs [(x, vC (.mp κ)), (y, vV k)], [(κ, some o)], .s v, [(κ, some o)], [], true⟩]) K) :
    Run P ops n (⟨some d, .lookup t x y false, ty, pos, aft, g⟩ :: os) F B evs K := by
  refine Run.look d [(x, vC (.mp κ)), (y, vV k)] κ o _ hg rfl hd ⟨hx, hy, trivial⟩ hb (fun G ν ρ w hS hr hO => ?_) h
  have ex : ρ x = .map (some (ν κ).1) := hr.1
  have ey := rep_v hr.2.1
  obtain ⟨v', h1, h2⟩ := run_lookup (P := P) (ok := false) hu hk hd' hz hm hO hf
  refine ⟨v', ?_, h2⟩
  simp only [Bool.false_eq_true, if_false] at h1
  simp [execOp, ex, ey, Sem.run_bind, Result.andThen, h1]

theorem R.look0 {κ key elem : Nat} {de : TypeDesc} {zv k : Value} {o : AO} {es : List (Value × SV)} {z : SV} (hu : P.underlying t = some (.map key elem)) (hk : P.underlying key = some de) (hd' : keyDesc de k = true) (hz : ∀ w, (zeroValue elem).run P w = .ok zv w)
    (hzz : ∀ G ν, RepS G ν z zv)
    (hg : GOk ops F ⟨some d, .lookup t x y false, ty, pos, aft, g⟩ false) (hd : Nat.blt d n = true) (hx : ov F.fn x = some (vC (.mp κ))) (hy : ov F.fn y = some (vV k)) (hb : B.fn κ = some o) (hm : mapVal k o = some es) (hf : mfind k es = some none)
    (h : Run P ops n os ((d, .s z) :: F) B (evs ++ [⟨⟨some d, .lookup t x y false, ty, pos, aft, g⟩, false, opFs [(x, vC (.mp κ)), (y, vV k)], [(κ, some o)], .s z, [(κ, some o)], [], true⟩]) K) :
    Run P ops n (⟨some d, .lookup t x y false, ty, pos, aft, g⟩ :: os) F B evs K := by
  refine Run.look d [(x, vC (.mp κ)), (y, vV k)] κ o _ hg rfl hd ⟨hx, hy, trivial⟩ hb (fun G ν ρ w hS hr hO => ?_) h
  have ex : ρ x = .map (some (ν κ).1) := hr.1
  have ey := rep_v hr.2.1
  obtain ⟨v', h1, h2⟩ := run_lookup (P := P) (ok := false) hu hk hd' hz hm hO hf
  simp only at h2
  subst h2
  refine ⟨v', ?_, hzz G ν⟩
  simp only [Bool.false_eq_true, if_false] at h1
  simp [execOp, ex, ey, Sem.run_bind, Result.andThen, h1]

end
end Go.Abs
