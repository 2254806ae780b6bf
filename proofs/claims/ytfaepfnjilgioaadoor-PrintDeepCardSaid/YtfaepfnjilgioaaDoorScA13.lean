/-
  Rules: built-in functions, literals of structs, parts of values, strings.
-/
import Derived.Test.YtfaepfnjilgioaaDoorScA12
set_option linter.all false
set_option linter.unusedSimpArgs false
set_option linter.unusedVariables false
namespace Go.Abs
open Go

section
variable {P : Program} {ops : Array Oper} {n : Nat} {os : List Oper} {F : Facts} {B : BL} {evs : List Ev} {K : FF → BF → List Ev → Prop}
variable {d t u ty : Nat} {x y z : Operand} {pos : String} {aft : Array Edge} {g : Option (Nat × Bool)}

/-! ### len, max, min -/
theorem R.lenS {s : ByteArray} (hu : P.underlying t = some .string)
    (hg : GOk ops F ⟨some d, .call ⟨.builtin .len, #[x], #[t]⟩, ty, pos, aft, g⟩ false) (hd : Nat.blt d n = true) (hx : ov F.fn x = some (vS s))
    (h : Run P ops n os ((d, vI s.size) :: F) B (evs ++ [ev0 ⟨some d, .call ⟨.builtin .len, #[x], #[t]⟩, ty, pos, aft, g⟩ [(x, vS s)] (vI s.size)]) K) :
    Run P ops n (⟨some d, .call ⟨.builtin .len, #[x], #[t]⟩, ty, pos, aft, g⟩ :: os) F B evs K := by
  refine Run.pure d [(x, vS s)] _ hg rfl hd ⟨hx, trivial⟩ (fun _ _ ρ w _ hr => ⟨_, ?_, rep_v' rfl⟩) h
  have e := rep_v hr.1
  simp [execOp, resolve, invoke, builtin, Builtin.len_, e, run_underlying hu, Sem.run_bind, Result.andThen, Sem.run, Pure.pure, goInt]

theorem rep_sl_len {G : Frz} {k : Nat} {es : List (List PC)} {v : Value} (h : RepP G (.sl k es) v) : ∃ a cap, v = .slice a es.length cap := by
  cases h with
  | sl => exact ⟨_, _, rfl⟩

theorem R.lenL {k e : Nat} {es : List (List PC)} (hu : P.underlying t = some (.slice e))
    (hg : GOk ops F ⟨some d, .call ⟨.builtin .len, #[x], #[t]⟩, ty, pos, aft, g⟩ false) (hd : Nat.blt d n = true) (hx : ov F.fn x = some (vL k es))
    (h : Run P ops n os ((d, vI es.length) :: F) B (evs ++ [ev0 ⟨some d, .call ⟨.builtin .len, #[x], #[t]⟩, ty, pos, aft, g⟩ [(x, vL k es)] (vI es.length)]) K) :
    Run P ops n (⟨some d, .call ⟨.builtin .len, #[x], #[t]⟩, ty, pos, aft, g⟩ :: os) F B evs K := by
  refine Run.pure d [(x, vL k es)] _ hg rfl hd ⟨hx, trivial⟩ (fun _ _ ρ w _ hr => ⟨_, ?_, rep_v' rfl⟩) h
  obtain ⟨a, cap, e⟩ := rep_sl_len (show RepP _ (.sl k es) (ρ x) from hr.1)
  simp [execOp, resolve, invoke, builtin, Builtin.len_, e, run_underlying hu, Sem.run_bind, Result.andThen, Sem.run, Pure.pure, goInt]

theorem R.lenH {κ m e : Nat} (hu : P.underlying t = some (.slice e))
    (hg : GOk ops F ⟨some d, .call ⟨.builtin .len, #[x], #[t]⟩, ty, pos, aft, g⟩ false) (hd : Nat.blt d n = true) (hx : ov F.fn x = some (vC (.hs κ m)))
    (h : Run P ops n os ((d, vI m) :: F) B (evs ++ [ev0 ⟨some d, .call ⟨.builtin .len, #[x], #[t]⟩, ty, pos, aft, g⟩ [(x, vC (.hs κ m))] (vI m)]) K) :
    Run P ops n (⟨some d, .call ⟨.builtin .len, #[x], #[t]⟩, ty, pos, aft, g⟩ :: os) F B evs K := by
  refine Run.pure d [(x, vC (.hs κ m))] _ hg rfl hd ⟨hx, trivial⟩ (fun _ _ ρ w _ hr => ⟨_, ?_, rep_v' rfl⟩) h
  obtain ⟨a, e, _⟩ := hr.1
  simp [execOp, resolve, invoke, builtin, Builtin.len_, e, run_underlying hu, Sem.run_bind, Result.andThen, Sem.run, Pure.pure, goInt]

/-- of a slice that is nil -/
theorem R.lenN {e : Nat} (hu : P.underlying t = some (.slice e))
    (hg : GOk ops F ⟨some d, .call ⟨.builtin .len, #[x], #[t]⟩, ty, pos, aft, g⟩ false) (hd : Nat.blt d n = true) (hx : ov F.fn x = some (vV (.slice none 0 0)))
    (h : Run P ops n os ((d, vI 0) :: F) B (evs ++ [ev0 ⟨some d, .call ⟨.builtin .len, #[x], #[t]⟩, ty, pos, aft, g⟩ [(x, vV (.slice none 0 0))] (vI 0)]) K) :
    Run P ops n (⟨some d, .call ⟨.builtin .len, #[x], #[t]⟩, ty, pos, aft, g⟩ :: os) F B evs K := by
  refine Run.pure d [(x, vV (.slice none 0 0))] _ hg rfl hd ⟨hx, trivial⟩ (fun _ _ ρ w _ hr => ⟨_, ?_, rep_v' rfl⟩) h
  have e := rep_v hr.1
  simp [execOp, resolve, invoke, builtin, Builtin.len_, e, run_underlying hu, Sem.run_bind, Result.andThen, Sem.run, Pure.pure, goInt]

theorem R.maxI {k : IntKind} {a b : Int} {t' : Nat}
    (hg : GOk ops F ⟨some d, .call ⟨.builtin .max, #[x, y], #[t, t']⟩, ty, pos, aft, g⟩ false) (hd : Nat.blt d n = true) (hx : ov F.fn x = some (vV (.int k a))) (hy : ov F.fn y = some (vV (.int k b)))
    (h : Run P ops n os ((d, vV (.int k (if b > a then b else a))) :: F) B (evs ++ [ev0 ⟨some d, .call ⟨.builtin .max, #[x, y], #[t, t']⟩, ty, pos, aft, g⟩ [(x, vV (.int k a)), (y, vV (.int k b))] (vV (.int k (if b > a then b else a)))]) K) :
    Run P ops n (⟨some d, .call ⟨.builtin .max, #[x, y], #[t, t']⟩, ty, pos, aft, g⟩ :: os) F B evs K := by
  refine Run.pure d [(x, vV (.int k a)), (y, vV (.int k b))] _ hg rfl hd ⟨hx, hy, trivial⟩ (fun _ _ ρ w _ hr => ⟨_, ?_, rep_v' rfl⟩) h
  have e := rep_v hr.1
  have e' := rep_v hr.2.1
  simp [execOp, resolve, invoke, builtin, Builtin.max_, Builtin.max2, e, e', Sem.run_bind, Result.andThen, Sem.run, Pure.pure]

theorem R.minI {k : IntKind} {a b : Int} {t' : Nat}
    (hg : GOk ops F ⟨some d, .call ⟨.builtin .min, #[x, y], #[t, t']⟩, ty, pos, aft, g⟩ false) (hd : Nat.blt d n = true) (hx : ov F.fn x = some (vV (.int k a))) (hy : ov F.fn y = some (vV (.int k b)))
    (h : Run P ops n os ((d, vV (.int k (if b < a then b else a))) :: F) B (evs ++ [ev0 ⟨some d, .call ⟨.builtin .min, #[x, y], #[t, t']⟩, ty, pos, aft, g⟩ [(x, vV (.int k a)), (y, vV (.int k b))] (vV (.int k (if b < a then b else a)))]) K) :
    Run P ops n (⟨some d, .call ⟨.builtin .min, #[x, y], #[t, t']⟩, ty, pos, aft, g⟩ :: os) F B evs K := by
  refine Run.pure d [(x, vV (.int k a)), (y, vV (.int k b))] _ hg rfl hd ⟨hx, hy, trivial⟩ (fun _ _ ρ w _ hr => ⟨_, ?_, rep_v' rfl⟩) h
  have e := rep_v hr.1
  have e' := rep_v hr.2.1
  simp [execOp, resolve, invoke, builtin, Builtin.min_, Builtin.min2, e, e', Sem.run_bind, Result.andThen, Sem.run, Pure.pure]

/-! ### strings -/
theorem R.idxS {s : ByteArray} {κ' : IntKind} {i : Int} {b : UInt8} (hu : P.underlying t = some .string)
    (hg : GOk ops F ⟨some d, .index t x y, ty, pos, aft, g⟩ false) (hd : Nat.blt d n = true) (hx : ov F.fn x = some (vS s)) (hy : ov F.fn y = some (vV (.int κ' i)))
    (h0 : 0 ≤ i) (hb : s[i.toNat]? = some b)
    (h : Run P ops n os ((d, vU8 b.toNat) :: F) B (evs ++ [ev0 ⟨some d, .index t x y, ty, pos, aft, g⟩ [(x, vS s), (y, vV (.int κ' i))] (vU8 b.toNat)]) K) :
    Run P ops n (⟨some d, .index t x y, ty, pos, aft, g⟩ :: os) F B evs K := by
  refine Run.pure d [(x, vS s), (y, vV (.int κ' i))] _ hg rfl hd ⟨hx, hy, trivial⟩ (fun _ _ ρ w _ hr => ⟨_, ?_, rep_v' rfl⟩) h
  have e := rep_v hr.1
  have e' := rep_v hr.2.1
  simp [execOp, Instr.index, asIntOf, e, e', h0, hb, run_underlying hu, Sem.run_bind, Result.andThen, Sem.run, Pure.pure]

/-- a part of a string -/
theorem R.slS {s : ByteArray} {l m : Int} {κ1 κ2 : IntKind} (hu : P.underlying t = some .string)
    (hg : GOk ops F ⟨some d, .slice t x (some y) (some z) none, ty, pos, aft, g⟩ false) (hd : Nat.blt d n = true) (hx : ov F.fn x = some (vS s)) (hy : ov F.fn y = some (vV (.int κ1 l))) (hz : ov F.fn z = some (vV (.int κ2 m)))
    (h0 : 0 ≤ l) (h1 : l ≤ m) (h2 : m ≤ s.size)
    (h : Run P ops n os ((d, vS (s.extract l.toNat m.toNat)) :: F) B (evs ++ [ev0 ⟨some d, .slice t x (some y) (some z) none, ty, pos, aft, g⟩ [(x, vS s), (y, vV (.int κ1 l)), (z, vV (.int κ2 m))] (vS (s.extract l.toNat m.toNat))]) K) :
    Run P ops n (⟨some d, .slice t x (some y) (some z) none, ty, pos, aft, g⟩ :: os) F B evs K := by
  refine Run.pure d [(x, vS s), (y, vV (.int κ1 l)), (z, vV (.int κ2 m))] _ hg rfl hd ⟨hx, hy, hz, trivial⟩ (fun _ _ ρ w _ hr => ⟨_, ?_, rep_v' rfl⟩) h
  have e := rep_v hr.1
  have e' := rep_v hr.2.1
  have e'' := rep_v hr.2.2.1
  have c1 : 0 ≤ m ∧ m ≤ (s.size : Int) := ⟨by omega, h2⟩
  have c2 : 0 ≤ l ∧ l ≤ (m.toNat : Int) := ⟨h0, by omega⟩
  have c3 : l ≤ max m 0 := by omega
  simp [execOp, Instr.sliceAt, Instr.slice, Instr.sliceBounds, Instr.sliceBound, asIntOf, e, e', e'', c1, h0, c3, run_underlying hu, Sem.run_bind, Result.andThen, Sem.run, Pure.pure]

end
end Go.Abs
