/-
  Rules: bits.
-/
import Derived.Test.YtfaepfnjilgioaaDoorScA24
set_option linter.all false
set_option linter.unusedSimpArgs false
set_option linter.unusedVariables false
namespace Go.Abs
open Go

section
variable {P : Program} {ops : Array Oper} {n : Nat} {os : List Oper} {F : Facts} {B : BL} {evs : List Ev} {K : FF → BF → List Ev → Prop}
variable {d t u ty : Nat} {x y z : Operand} {pos : String} {aft : Array Edge} {g : Option (Nat × Bool)}

theorem eqGuard_shr {a b : Value} (w : World) : (eqGuard .shr t x y a b).run P w = .ok () w := rfl
theorem eqGuard_shl {a b : Value} (w : World) : (eqGuard .shl t x y a b).run P w = .ok () w := rfl

theorem R.shr {k k' : IntKind} {a b : Int} (hg : GOk ops F ⟨some d, .binOp .shr t x y u, ty, pos, aft, g⟩ false) (hd : Nat.blt d n = true)
    (hx : ov F.fn x = some (vV (.int k a))) (hy : ov F.fn y = some (vV (.int k' b))) (h0 : 0 ≤ b)
    (h : Run P ops n os ((d, vV (.int k (a.fdiv (2 ^ min b.toNat k.bits)))) :: F) B (evs ++ [ev0 ⟨some d, .binOp .shr t x y u, ty, pos, aft, g⟩ [(x, vV (.int k a)), (y, vV (.int k' b))] (vV (.int k (a.fdiv (2 ^ min b.toNat k.bits))))]) K) :
    Run P ops n (⟨some d, .binOp .shr t x y u, ty, pos, aft, g⟩ :: os) F B evs K :=
  R.bin _ hg hd hx hy rfl eqGuard_shr (fun w => by
    have e : binOp .shr t (.int k a) (.int k' b) = Op.shift .shr k a k' b := rfl
    rw [e, Op.shift, if_neg (by omega)]; rfl) h

theorem R.shl {k k' : IntKind} {a b : Int} (hg : GOk ops F ⟨some d, .binOp .shl t x y u, ty, pos, aft, g⟩ false) (hd : Nat.blt d n = true)
    (hx : ov F.fn x = some (vV (.int k a))) (hy : ov F.fn y = some (vV (.int k' b))) (h0 : 0 ≤ b)
    (h : Run P ops n os ((d, vV (.int k (k.wrap (a * 2 ^ min b.toNat k.bits)))) :: F) B (evs ++ [ev0 ⟨some d, .binOp .shl t x y u, ty, pos, aft, g⟩ [(x, vV (.int k a)), (y, vV (.int k' b))] (vV (.int k (k.wrap (a * 2 ^ min b.toNat k.bits))))]) K) :
    Run P ops n (⟨some d, .binOp .shl t x y u, ty, pos, aft, g⟩ :: os) F B evs K :=
  R.bin _ hg hd hx hy rfl eqGuard_shl (fun w => by
    have e : binOp .shl t (.int k a) (.int k' b) = Op.shift .shl k a k' b := rfl
    rw [e, Op.shift, if_neg (by omega)]; rfl) h

theorem R.and {k : IntKind} {a b : Int} (hg : GOk ops F ⟨some d, .binOp .and t x y u, ty, pos, aft, g⟩ false) (hd : Nat.blt d n = true)
    (hx : ov F.fn x = some (vV (.int k a))) (hy : ov F.fn y = some (vV (.int k b)))
    (h : Run P ops n os ((d, vV (.int k (k.wrap (BitVec.ofInt k.bits a &&& BitVec.ofInt k.bits b).toNat))) :: F) B (evs ++ [ev0 ⟨some d, .binOp .and t x y u, ty, pos, aft, g⟩ [(x, vV (.int k a)), (y, vV (.int k b))] (vV (.int k (k.wrap (BitVec.ofInt k.bits a &&& BitVec.ofInt k.bits b).toNat)))]) K) :
    Run P ops n (⟨some d, .binOp .and t x y u, ty, pos, aft, g⟩ :: os) F B evs K :=
  R.bin _ hg hd hx hy rfl eqGuard_int (fun w => by
    have e : binOp .and t (.int k a) (.int k b) = if k ≠ k then stuck "BinOp: operands of different kinds" else Op.intBits .and k a b := rfl
    rw [e, if_neg (by simp)]; rfl) h

theorem R.or {k : IntKind} {a b : Int} (hg : GOk ops F ⟨some d, .binOp .or t x y u, ty, pos, aft, g⟩ false) (hd : Nat.blt d n = true)
    (hx : ov F.fn x = some (vV (.int k a))) (hy : ov F.fn y = some (vV (.int k b)))
    (h : Run P ops n os ((d, vV (.int k (k.wrap (BitVec.ofInt k.bits a ||| BitVec.ofInt k.bits b).toNat))) :: F) B (evs ++ [ev0 ⟨some d, .binOp .or t x y u, ty, pos, aft, g⟩ [(x, vV (.int k a)), (y, vV (.int k b))] (vV (.int k (k.wrap (BitVec.ofInt k.bits a ||| BitVec.ofInt k.bits b).toNat)))]) K) :
    Run P ops n (⟨some d, .binOp .or t x y u, ty, pos, aft, g⟩ :: os) F B evs K :=
  R.bin _ hg hd hx hy rfl eqGuard_int (fun w => by
    have e : binOp .or t (.int k a) (.int k b) = if k ≠ k then stuck "BinOp: operands of different kinds" else Op.intBits .or k a b := rfl
    rw [e, if_neg (by simp)]; rfl) h
end

theorem fs_eq {f : FF} {s : Nat} {v v' : AV} (h : f s = some v) (e : v = v') : f s = some v' := by rw [← e]; exact h
theorem vI_eq {k : IntKind} {a b : Int} (h : a = b) : vV (.int k a) = vV (.int k b) := by rw [h]
theorem vB_eq {a b : Bool} (h : a = b) : vB a = vB b := by rw [h]
theorem vS_eq {a b : ByteArray} (h : a = b) : vS a = vS b := by rw [h]
theorem vL_eq {k : Nat} {a b : List (List PC)} (h : a = b) : vL k a = vL k b := by rw [h]
theorem bi_eq {b : BF} {κ : Key} {o o' : AO} (h : b κ = some o) (e : o = o') : b κ = some o' := by rw [← e]; exact h

end Go.Abs
