/-
  Rules: operations that touch no memory. (Printed by a program of ours.)
-/
import Derived.Test.YtfaepfnjilgioaaDoorScA7
set_option linter.all false
set_option linter.unusedSimpArgs false
set_option linter.unusedVariables false
namespace Go.Abs
open Go

section
variable {P : Program} {ops : Array Oper} {n : Nat} {os : List Oper} {F : Facts} {B : BL} {evs : List Ev} {K : FF → BF → List Ev → Prop}
variable {d t u ty : Nat} {x y z : Operand} {pos : String} {aft : Array Edge} {g : Option (Nat × Bool)}

/-- the event of a rule without objects -/
abbrev ev0 (o : Oper) (xs : List (Operand × AV)) (out : AV) : Ev := ⟨o, false, opFs xs, [], out, [], [], false⟩

theorem rep_v {G : Frz} {ν : Pl} {v w : Value} (h : RepV G ν (vV v) w) : w = v := by
  simp only [RepV, RepS, RepC] at h; cases h; rfl
theorem rep_v' {G : Frz} {ν : Pl} {v : Value} (h : isCell v = true) : RepV G ν (vV v) v := .v v h

theorem eqGuard_int {op : BinOp} {k k' : IntKind} {a b : Int} (w : World) : (eqGuard op t x y (.int k a) (.int k' b)).run P w = .ok () w := by
  unfold eqGuard; cases op <;> rfl
theorem eqGuard_bool {op : BinOp} {a b : Bool} (w : World) : (eqGuard op t x y (.bool a) (.bool b)).run P w = .ok () w := by
  unfold eqGuard; cases op <;> rfl
theorem eqGuard_str {op : BinOp} {a b : ByteArray} (w : World) : (eqGuard op t x y (.string a) (.string b)).run P w = .ok () w := by
  unfold eqGuard; cases op <;> rfl

theorem equal_bool {a b : Bool} (w : World) (ht : P.underlying t = some .bool) : (Op.equal t (.bool a) (.bool b)).run P w = .ok (a == b) w := by
  unfold Op.equal
  rw [show Op.maxDepth = 9999 + 1 from rfl]
  unfold Op.equalIn
  simp only [underlying, program, bind, Sem.bind, Sem.run, ht]
  rfl
theorem bin_eqlB {a b : Bool} (w : World) (ht : P.underlying t = some .bool) : (binOp .eql t (.bool a) (.bool b)).run P w = .ok (.bool (a == b)) w := by
  have h : binOp .eql t (.bool a) (.bool b) = (do pure (.bool (← Op.equal t (.bool a) (.bool b)))) := rfl
  rw [h]; simp [equal_bool w ht, Result.andThen]
theorem bin_neqB {a b : Bool} (w : World) (ht : P.underlying t = some .bool) : (binOp .neq t (.bool a) (.bool b)).run P w = .ok (.bool (!(a == b))) w := by
  have h : binOp .neq t (.bool a) (.bool b) = (do pure (.bool (!(← Op.equal t (.bool a) (.bool b))))) := rfl
  rw [h]; simp only [Sem.run_bind, equal_bool w ht, Result.andThen]; rfl

/-- two plain values -/
theorem R.bin {op : BinOp} {a b : Value} (r : Value) (hg : GOk ops F ⟨some d, .binOp op t x y u, ty, pos, aft, g⟩ false) (hd : Nat.blt d n = true)
    (hx : ov F.fn x = some (vV a)) (hy : ov F.fn y = some (vV b)) (hc : isCell r = true)
    (hgd : ∀ w, (eqGuard op t x y a b).run P w = .ok () w) (hr : ∀ w, (binOp op t a b).run P w = .ok r w)
    (h : Run P ops n os ((d, vV r) :: F) B (evs ++ [ev0 ⟨some d, .binOp op t x y u, ty, pos, aft, g⟩ [(x, vV a), (y, vV b)] (vV r)]) K) :
    Run P ops n (⟨some d, .binOp op t x y u, ty, pos, aft, g⟩ :: os) F B evs K := by
  refine Run.pure d [(x, vV a), (y, vV b)] (vV r) hg rfl hd ⟨hx, hy, trivial⟩ ?_ h
  intro G ν ρ w _ hr'
  have e1 := rep_v hr'.1
  have e2 := rep_v hr'.2.1
  refine ⟨r, ?_, .v r hc⟩
  simp only [execOp, e1, e2]
  simp [Sem.run_bind, hgd, hr, Result.andThen]


theorem R.move {v : AV} (hg : GOk ops F ⟨some d, .move x, ty, pos, aft, g⟩ false) (hd : Nat.blt d n = true)
    (hx : ov F.fn x = some v)
    (h : Run P ops n os ((d, v) :: F) B (evs ++ [ev0 ⟨some d, .move x, ty, pos, aft, g⟩ [(x, v)] (v)]) K) :
    Run P ops n (⟨some d, .move x, ty, pos, aft, g⟩ :: os) F B evs K :=
  Run.pure d [(x, v)] v hg rfl hd ⟨hx, trivial⟩ (fun _ _ ρ _ _ hr => ⟨ρ x, rfl, hr.1⟩) h

theorem R.assign {v : AV} (hg : GOk ops F ⟨some d, .assign x, ty, pos, aft, g⟩ false) (hd : Nat.blt d n = true)
    (hx : ov F.fn x = some v)
    (h : Run P ops n os ((d, v) :: F) B (evs ++ [ev0 ⟨some d, .assign x, ty, pos, aft, g⟩ [(x, v)] (v)]) K) :
    Run P ops n (⟨some d, .assign x, ty, pos, aft, g⟩ :: os) F B evs K :=
  Run.pure d [(x, v)] v hg rfl hd ⟨hx, trivial⟩ (fun _ _ ρ _ _ hr => ⟨ρ x, rfl, hr.1⟩) h

theorem R.eql {k : IntKind} {a b : Int} (hg : GOk ops F ⟨some d, .binOp .eql t x y u, ty, pos, aft, g⟩ false) (hd : Nat.blt d n = true)
    (hx : ov F.fn x = some (vV (.int k a))) (hy : ov F.fn y = some (vV (.int k b)))
    (h : Run P ops n os ((d, vB (a == b)) :: F) B (evs ++ [ev0 ⟨some d, .binOp .eql t x y u, ty, pos, aft, g⟩ [(x, vV (.int k a)), (y, vV (.int k b))] (vB (a == b))]) K) :
    Run P ops n (⟨some d, .binOp .eql t x y u, ty, pos, aft, g⟩ :: os) F B evs K :=
  R.bin _ hg hd hx hy rfl eqGuard_int (fun w => by simp [binOp, Op.intCmp, Pure.pure]) h

theorem R.neq {k : IntKind} {a b : Int} (hg : GOk ops F ⟨some d, .binOp .neq t x y u, ty, pos, aft, g⟩ false) (hd : Nat.blt d n = true)
    (hx : ov F.fn x = some (vV (.int k a))) (hy : ov F.fn y = some (vV (.int k b)))
    (h : Run P ops n os ((d, vB (a != b)) :: F) B (evs ++ [ev0 ⟨some d, .binOp .neq t x y u, ty, pos, aft, g⟩ [(x, vV (.int k a)), (y, vV (.int k b))] (vB (a != b))]) K) :
    Run P ops n (⟨some d, .binOp .neq t x y u, ty, pos, aft, g⟩ :: os) F B evs K :=
  R.bin _ hg hd hx hy rfl eqGuard_int (fun w => by simp [binOp, Op.intCmp, Pure.pure]) h

theorem R.lss {k : IntKind} {a b : Int} (hg : GOk ops F ⟨some d, .binOp .lss t x y u, ty, pos, aft, g⟩ false) (hd : Nat.blt d n = true)
    (hx : ov F.fn x = some (vV (.int k a))) (hy : ov F.fn y = some (vV (.int k b)))
    (h : Run P ops n os ((d, vB (decide (a < b))) :: F) B (evs ++ [ev0 ⟨some d, .binOp .lss t x y u, ty, pos, aft, g⟩ [(x, vV (.int k a)), (y, vV (.int k b))] (vB (decide (a < b)))]) K) :
    Run P ops n (⟨some d, .binOp .lss t x y u, ty, pos, aft, g⟩ :: os) F B evs K :=
  R.bin _ hg hd hx hy rfl eqGuard_int (fun w => by simp [binOp, Op.intCmp, Pure.pure]) h

theorem R.leq {k : IntKind} {a b : Int} (hg : GOk ops F ⟨some d, .binOp .leq t x y u, ty, pos, aft, g⟩ false) (hd : Nat.blt d n = true)
    (hx : ov F.fn x = some (vV (.int k a))) (hy : ov F.fn y = some (vV (.int k b)))
    (h : Run P ops n os ((d, vB (decide (a ≤ b))) :: F) B (evs ++ [ev0 ⟨some d, .binOp .leq t x y u, ty, pos, aft, g⟩ [(x, vV (.int k a)), (y, vV (.int k b))] (vB (decide (a ≤ b)))]) K) :
    Run P ops n (⟨some d, .binOp .leq t x y u, ty, pos, aft, g⟩ :: os) F B evs K :=
  R.bin _ hg hd hx hy rfl eqGuard_int (fun w => by simp [binOp, Op.intCmp, Pure.pure]) h

theorem R.gtr {k : IntKind} {a b : Int} (hg : GOk ops F ⟨some d, .binOp .gtr t x y u, ty, pos, aft, g⟩ false) (hd : Nat.blt d n = true)
    (hx : ov F.fn x = some (vV (.int k a))) (hy : ov F.fn y = some (vV (.int k b)))
    (h : Run P ops n os ((d, vB (decide (a > b))) :: F) B (evs ++ [ev0 ⟨some d, .binOp .gtr t x y u, ty, pos, aft, g⟩ [(x, vV (.int k a)), (y, vV (.int k b))] (vB (decide (a > b)))]) K) :
    Run P ops n (⟨some d, .binOp .gtr t x y u, ty, pos, aft, g⟩ :: os) F B evs K :=
  R.bin _ hg hd hx hy rfl eqGuard_int (fun w => by simp [binOp, Op.intCmp, Pure.pure]) h

theorem R.geq {k : IntKind} {a b : Int} (hg : GOk ops F ⟨some d, .binOp .geq t x y u, ty, pos, aft, g⟩ false) (hd : Nat.blt d n = true)
    (hx : ov F.fn x = some (vV (.int k a))) (hy : ov F.fn y = some (vV (.int k b)))
    (h : Run P ops n os ((d, vB (decide (a ≥ b))) :: F) B (evs ++ [ev0 ⟨some d, .binOp .geq t x y u, ty, pos, aft, g⟩ [(x, vV (.int k a)), (y, vV (.int k b))] (vB (decide (a ≥ b)))]) K) :
    Run P ops n (⟨some d, .binOp .geq t x y u, ty, pos, aft, g⟩ :: os) F B evs K :=
  R.bin _ hg hd hx hy rfl eqGuard_int (fun w => by simp [binOp, Op.intCmp, Pure.pure]) h

theorem R.addW {k : IntKind} {a b : Int} (hg : GOk ops F ⟨some d, .binOp .add t x y u, ty, pos, aft, g⟩ false) (hd : Nat.blt d n = true)
    (hx : ov F.fn x = some (vV (.int k a))) (hy : ov F.fn y = some (vV (.int k b)))
    (h : Run P ops n os ((d, vV (.int k (k.wrap (a + b)))) :: F) B (evs ++ [ev0 ⟨some d, .binOp .add t x y u, ty, pos, aft, g⟩ [(x, vV (.int k a)), (y, vV (.int k b))] (vV (.int k (k.wrap (a + b))))]) K) :
    Run P ops n (⟨some d, .binOp .add t x y u, ty, pos, aft, g⟩ :: os) F B evs K :=
  R.bin _ hg hd hx hy rfl eqGuard_int (fun w => by simp [binOp, Op.intArith, Pure.pure]) h

theorem R.add {a b : Int} (hg : GOk ops F ⟨some d, .binOp .add t x y u, ty, pos, aft, g⟩ false) (hd : Nat.blt d n = true)
    (hx : ov F.fn x = some (vI a)) (hy : ov F.fn y = some (vI b)) (hf : I64 (a + b))
    (h : Run P ops n os ((d, vI (a + b)) :: F) B (evs ++ [ev0 ⟨some d, .binOp .add t x y u, ty, pos, aft, g⟩ [(x, vI a), (y, vI b)] (vI (a + b))]) K) :
    Run P ops n (⟨some d, .binOp .add t x y u, ty, pos, aft, g⟩ :: os) F B evs K :=
  R.bin _ hg hd hx hy rfl eqGuard_int (fun w => by simp [binOp, Op.intArith, Pure.pure, wrap_i64 hf]) h

theorem R.subW {k : IntKind} {a b : Int} (hg : GOk ops F ⟨some d, .binOp .sub t x y u, ty, pos, aft, g⟩ false) (hd : Nat.blt d n = true)
    (hx : ov F.fn x = some (vV (.int k a))) (hy : ov F.fn y = some (vV (.int k b)))
    (h : Run P ops n os ((d, vV (.int k (k.wrap (a - b)))) :: F) B (evs ++ [ev0 ⟨some d, .binOp .sub t x y u, ty, pos, aft, g⟩ [(x, vV (.int k a)), (y, vV (.int k b))] (vV (.int k (k.wrap (a - b))))]) K) :
    Run P ops n (⟨some d, .binOp .sub t x y u, ty, pos, aft, g⟩ :: os) F B evs K :=
  R.bin _ hg hd hx hy rfl eqGuard_int (fun w => by simp [binOp, Op.intArith, Pure.pure]) h

theorem R.sub {a b : Int} (hg : GOk ops F ⟨some d, .binOp .sub t x y u, ty, pos, aft, g⟩ false) (hd : Nat.blt d n = true)
    (hx : ov F.fn x = some (vI a)) (hy : ov F.fn y = some (vI b)) (hf : I64 (a - b))
    (h : Run P ops n os ((d, vI (a - b)) :: F) B (evs ++ [ev0 ⟨some d, .binOp .sub t x y u, ty, pos, aft, g⟩ [(x, vI a), (y, vI b)] (vI (a - b))]) K) :
    Run P ops n (⟨some d, .binOp .sub t x y u, ty, pos, aft, g⟩ :: os) F B evs K :=
  R.bin _ hg hd hx hy rfl eqGuard_int (fun w => by simp [binOp, Op.intArith, Pure.pure, wrap_i64 hf]) h

theorem R.mulW {k : IntKind} {a b : Int} (hg : GOk ops F ⟨some d, .binOp .mul t x y u, ty, pos, aft, g⟩ false) (hd : Nat.blt d n = true)
    (hx : ov F.fn x = some (vV (.int k a))) (hy : ov F.fn y = some (vV (.int k b)))
    (h : Run P ops n os ((d, vV (.int k (k.wrap (a * b)))) :: F) B (evs ++ [ev0 ⟨some d, .binOp .mul t x y u, ty, pos, aft, g⟩ [(x, vV (.int k a)), (y, vV (.int k b))] (vV (.int k (k.wrap (a * b))))]) K) :
    Run P ops n (⟨some d, .binOp .mul t x y u, ty, pos, aft, g⟩ :: os) F B evs K :=
  R.bin _ hg hd hx hy rfl eqGuard_int (fun w => by simp [binOp, Op.intArith, Pure.pure]) h

theorem R.mul {a b : Int} (hg : GOk ops F ⟨some d, .binOp .mul t x y u, ty, pos, aft, g⟩ false) (hd : Nat.blt d n = true)
    (hx : ov F.fn x = some (vI a)) (hy : ov F.fn y = some (vI b)) (hf : I64 (a * b))
    (h : Run P ops n os ((d, vI (a * b)) :: F) B (evs ++ [ev0 ⟨some d, .binOp .mul t x y u, ty, pos, aft, g⟩ [(x, vI a), (y, vI b)] (vI (a * b))]) K) :
    Run P ops n (⟨some d, .binOp .mul t x y u, ty, pos, aft, g⟩ :: os) F B evs K :=
  R.bin _ hg hd hx hy rfl eqGuard_int (fun w => by simp [binOp, Op.intArith, Pure.pure, wrap_i64 hf]) h

theorem R.quoW {k : IntKind} {a b : Int} (hg : GOk ops F ⟨some d, .binOp .quo t x y u, ty, pos, aft, g⟩ false) (hd : Nat.blt d n = true)
    (hx : ov F.fn x = some (vV (.int k a))) (hy : ov F.fn y = some (vV (.int k b))) (hb : b ≠ 0)
    (h : Run P ops n os ((d, vV (.int k (k.wrap (a.tdiv b)))) :: F) B (evs ++ [ev0 ⟨some d, .binOp .quo t x y u, ty, pos, aft, g⟩ [(x, vV (.int k a)), (y, vV (.int k b))] (vV (.int k (k.wrap (a.tdiv b))))]) K) :
    Run P ops n (⟨some d, .binOp .quo t x y u, ty, pos, aft, g⟩ :: os) F B evs K :=
  R.bin _ hg hd hx hy rfl eqGuard_int (fun w => by simp [binOp, Op.intDiv, Pure.pure, hb]) h

theorem R.rem {k : IntKind} {a b : Int} (hg : GOk ops F ⟨some d, .binOp .rem t x y u, ty, pos, aft, g⟩ false) (hd : Nat.blt d n = true)
    (hx : ov F.fn x = some (vV (.int k a))) (hy : ov F.fn y = some (vV (.int k b))) (hb : b ≠ 0)
    (h : Run P ops n os ((d, vV (.int k (a.tmod b))) :: F) B (evs ++ [ev0 ⟨some d, .binOp .rem t x y u, ty, pos, aft, g⟩ [(x, vV (.int k a)), (y, vV (.int k b))] (vV (.int k (a.tmod b)))]) K) :
    Run P ops n (⟨some d, .binOp .rem t x y u, ty, pos, aft, g⟩ :: os) F B evs K :=
  R.bin _ hg hd hx hy rfl eqGuard_int (fun w => by simp [binOp, Op.intDiv, Pure.pure, hb]) h

theorem R.eqlB {a b : Bool} (hg : GOk ops F ⟨some d, .binOp .eql t x y u, ty, pos, aft, g⟩ false) (hd : Nat.blt d n = true)
    (hx : ov F.fn x = some (vB a)) (hy : ov F.fn y = some (vB b)) (ht : P.underlying t = some .bool)
    (h : Run P ops n os ((d, vB (a == b)) :: F) B (evs ++ [ev0 ⟨some d, .binOp .eql t x y u, ty, pos, aft, g⟩ [(x, vB a), (y, vB b)] (vB (a == b))]) K) :
    Run P ops n (⟨some d, .binOp .eql t x y u, ty, pos, aft, g⟩ :: os) F B evs K :=
  R.bin _ hg hd hx hy rfl eqGuard_bool (fun w => bin_eqlB w ht) h

theorem R.neqB {a b : Bool} (hg : GOk ops F ⟨some d, .binOp .neq t x y u, ty, pos, aft, g⟩ false) (hd : Nat.blt d n = true)
    (hx : ov F.fn x = some (vB a)) (hy : ov F.fn y = some (vB b)) (ht : P.underlying t = some .bool)
    (h : Run P ops n os ((d, vB (!(a == b))) :: F) B (evs ++ [ev0 ⟨some d, .binOp .neq t x y u, ty, pos, aft, g⟩ [(x, vB a), (y, vB b)] (vB (!(a == b)))]) K) :
    Run P ops n (⟨some d, .binOp .neq t x y u, ty, pos, aft, g⟩ :: os) F B evs K :=
  R.bin _ hg hd hx hy rfl eqGuard_bool (fun w => bin_neqB w ht) h

theorem R.eqlS {a b : ByteArray} (hg : GOk ops F ⟨some d, .binOp .eql t x y u, ty, pos, aft, g⟩ false) (hd : Nat.blt d n = true)
    (hx : ov F.fn x = some (vS a)) (hy : ov F.fn y = some (vS b))
    (h : Run P ops n os ((d, vB (a.toList == b.toList)) :: F) B (evs ++ [ev0 ⟨some d, .binOp .eql t x y u, ty, pos, aft, g⟩ [(x, vS a), (y, vS b)] (vB (a.toList == b.toList))]) K) :
    Run P ops n (⟨some d, .binOp .eql t x y u, ty, pos, aft, g⟩ :: os) F B evs K :=
  R.bin _ hg hd hx hy rfl eqGuard_str (fun w => by simp [binOp, Op.stringOp, Pure.pure]) h

theorem R.neqS {a b : ByteArray} (hg : GOk ops F ⟨some d, .binOp .neq t x y u, ty, pos, aft, g⟩ false) (hd : Nat.blt d n = true)
    (hx : ov F.fn x = some (vS a)) (hy : ov F.fn y = some (vS b))
    (h : Run P ops n os ((d, vB (!(a.toList == b.toList))) :: F) B (evs ++ [ev0 ⟨some d, .binOp .neq t x y u, ty, pos, aft, g⟩ [(x, vS a), (y, vS b)] (vB (!(a.toList == b.toList)))]) K) :
    Run P ops n (⟨some d, .binOp .neq t x y u, ty, pos, aft, g⟩ :: os) F B evs K :=
  R.bin _ hg hd hx hy rfl eqGuard_str (fun w => by simp [binOp, Op.stringOp, Pure.pure]) h

theorem R.geqS {a b : ByteArray} (hg : GOk ops F ⟨some d, .binOp .geq t x y u, ty, pos, aft, g⟩ false) (hd : Nat.blt d n = true)
    (hx : ov F.fn x = some (vS a)) (hy : ov F.fn y = some (vS b))
    (h : Run P ops n os ((d, vB (!(Op.bytesLess a.toList b.toList))) :: F) B (evs ++ [ev0 ⟨some d, .binOp .geq t x y u, ty, pos, aft, g⟩ [(x, vS a), (y, vS b)] (vB (!(Op.bytesLess a.toList b.toList)))]) K) :
    Run P ops n (⟨some d, .binOp .geq t x y u, ty, pos, aft, g⟩ :: os) F B evs K :=
  R.bin _ hg hd hx hy rfl eqGuard_str (fun w => by simp [binOp, Op.stringOp, Pure.pure]) h

theorem R.addS {a b : ByteArray} (hg : GOk ops F ⟨some d, .binOp .add t x y u, ty, pos, aft, g⟩ false) (hd : Nat.blt d n = true)
    (hx : ov F.fn x = some (vS a)) (hy : ov F.fn y = some (vS b)) (hl : ((a.size + b.size : Nat) : Int) ≤ IntKind.i64.max)
    (h : Run P ops n os ((d, vS (a ++ b)) :: F) B (evs ++ [ev0 ⟨some d, .binOp .add t x y u, ty, pos, aft, g⟩ [(x, vS a), (y, vS b)] (vS (a ++ b))]) K) :
    Run P ops n (⟨some d, .binOp .add t x y u, ty, pos, aft, g⟩ :: os) F B evs K :=
  R.bin _ hg hd hx hy rfl eqGuard_str (fun w => by simp only [binOp, Op.stringOp]; rw [if_neg (by omega)]; rfl) h

theorem R.not {a : Bool} (hg : GOk ops F ⟨some d, .unOp .not t x, ty, pos, aft, g⟩ false) (hd : Nat.blt d n = true)
    (hx : ov F.fn x = some (vB a))
    (h : Run P ops n os ((d, vB (!a)) :: F) B (evs ++ [ev0 ⟨some d, .unOp .not t x, ty, pos, aft, g⟩ [(x, vB a)] (vB (!a))]) K) :
    Run P ops n (⟨some d, .unOp .not t x, ty, pos, aft, g⟩ :: os) F B evs K :=
  Run.pure d [(x, vB a)] _ hg rfl hd ⟨hx, trivial⟩ (fun _ _ ρ w _ hr => ⟨_, by simp [execOp, rep_v hr.1, Op.unary, Sem.run_bind, Sem.run, Result.andThen, Pure.pure], rep_v' rfl⟩) h

theorem R.un {op : UnOp} {a : Value} (r : Value) (hg : GOk ops F ⟨some d, .unOp op t x, ty, pos, aft, g⟩ false) (hd : Nat.blt d n = true)
    (hx : ov F.fn x = some (vV a)) (hc : isCell r = true) (hr : ∀ w, (Op.unary op a).run P w = .ok r w)
    (h : Run P ops n os ((d, vV r) :: F) B (evs ++ [ev0 ⟨some d, .unOp op t x, ty, pos, aft, g⟩ [(x, vV a)] (vV r)]) K) :
    Run P ops n (⟨some d, .unOp op t x, ty, pos, aft, g⟩ :: os) F B evs K :=
  Run.pure d [(x, vV a)] _ hg rfl hd ⟨hx, trivial⟩ (fun _ _ ρ w _ hr' => ⟨_, by simp [execOp, rep_v hr'.1, hr, Sem.run_bind, Result.andThen], rep_v' hc⟩) h

theorem R.pickT {v : AV} (hg : GOk ops F ⟨some d, .pick x y z, ty, pos, aft, g⟩ false) (hd : Nat.blt d n = true)
    (hx : ov F.fn x = some (vB true)) (hy : ov F.fn y = some v)
    (h : Run P ops n os ((d, v) :: F) B (evs ++ [ev0 ⟨some d, .pick x y z, ty, pos, aft, g⟩ [(x, vB true), (y, v)] (v)]) K) :
    Run P ops n (⟨some d, .pick x y z, ty, pos, aft, g⟩ :: os) F B evs K :=
  Run.pure d [(x, vB true), (y, v)] _ hg rfl hd ⟨hx, hy, trivial⟩ (fun _ _ ρ w _ hr => ⟨ρ y, by simp [execOp, rep_v hr.1, asBool, Sem.run_bind, Sem.run, Result.andThen, Pure.pure], hr.2.1⟩) h

theorem R.pickF {v : AV} (hg : GOk ops F ⟨some d, .pick x y z, ty, pos, aft, g⟩ false) (hd : Nat.blt d n = true)
    (hx : ov F.fn x = some (vB false)) (hy : ov F.fn z = some v)
    (h : Run P ops n os ((d, v) :: F) B (evs ++ [ev0 ⟨some d, .pick x y z, ty, pos, aft, g⟩ [(x, vB false), (z, v)] (v)]) K) :
    Run P ops n (⟨some d, .pick x y z, ty, pos, aft, g⟩ :: os) F B evs K :=
  Run.pure d [(x, vB false), (z, v)] _ hg rfl hd ⟨hx, hy, trivial⟩ (fun _ _ ρ w _ hr => ⟨ρ z, by simp [execOp, rep_v hr.1, asBool, Sem.run_bind, Sem.run, Result.andThen, Pure.pure], hr.2.1⟩) h

theorem R.conv {src dst : Nat} {k k' : IntKind} {a : Int} (hg : GOk ops F ⟨some d, .convert src dst x, ty, pos, aft, g⟩ false) (hd : Nat.blt d n = true)
    (hx : ov F.fn x = some (vV (.int k a))) (hs : P.underlying src = some (.int k)) (ht : P.underlying dst = some (.int k'))
    (h : Run P ops n os ((d, vV (.int k' (k'.wrap a))) :: F) B (evs ++ [ev0 ⟨some d, .convert src dst x, ty, pos, aft, g⟩ [(x, vV (.int k a))] (vV (.int k' (k'.wrap a)))]) K) :
    Run P ops n (⟨some d, .convert src dst x, ty, pos, aft, g⟩ :: os) F B evs K :=
  Run.pure d [(x, vV (.int k a))] _ hg rfl hd ⟨hx, trivial⟩ (fun _ _ ρ w _ hr => ⟨_, by simp [execOp, rep_v hr.1, convert, underlying, program, hs, ht, Conv.intToInt, Sem.run_bind, Sem.run, Result.andThen, Pure.pure], rep_v' rfl⟩) h

theorem R.extract {i : Nat} {vs : List SV} {v : SV} (hg : GOk ops F ⟨some d, .extract x i, ty, pos, aft, g⟩ false) (hd : Nat.blt d n = true)
    (hx : ov F.fn x = some (.tup vs)) (hi : vs[i]? = some v)
    (h : Run P ops n os ((d, .s v) :: F) B (evs ++ [ev0 ⟨some d, .extract x i, ty, pos, aft, g⟩ [(x, .tup vs)] (.s v)]) K) :
    Run P ops n (⟨some d, .extract x i, ty, pos, aft, g⟩ :: os) F B evs K :=
  Run.pure d [(x, .tup vs)] _ hg rfl hd ⟨hx, trivial⟩ (fun G ν ρ w _ hr => by
    obtain ⟨us, e, hu⟩ := hr.1
    obtain ⟨r, h1, h2⟩ := hu.get i v hi
    refine ⟨r, ?_, h2⟩
    have h1' : us[i]? = some r := by simpa using h1
    simp [execOp, e, Instr.extract, h1', Sem.run_bind, Sem.run, Result.andThen, Pure.pure]) h

theorem R.nilChk {κ : Key} {off : Nat} (hg : GOk ops F ⟨some d, .nilCheck x, ty, pos, aft, g⟩ false) (hd : Nat.blt d n = true)
    (hx : ov F.fn x = some (vC (.ptr κ off)))
    (h : Run P ops n os ((d, vC (.ptr κ off)) :: F) B (evs ++ [ev0 ⟨some d, .nilCheck x, ty, pos, aft, g⟩ [(x, vC (.ptr κ off))] (vC (.ptr κ off))]) K) :
    Run P ops n (⟨some d, .nilCheck x, ty, pos, aft, g⟩ :: os) F B evs K :=
  Run.pure d [(x, vC (.ptr κ off))] _ hg rfl hd ⟨hx, trivial⟩ (fun _ _ ρ w _ hr => ⟨ρ x, by have e := hr.1; simp only [RepV, RepS, RepC] at e; simp [execOp, e, Sem.run, Pure.pure], hr.1⟩) h

end
end Go.Abs
