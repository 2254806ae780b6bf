/-
  Rules: one operation each.
-/
import Derived.Test.YtfaepfnjilgioaaDoorScA6
set_option linter.all false
set_option linter.unusedSimpArgs false
set_option linter.unusedVariables false
namespace Go.Abs
open Go

/-! ### names for common values -/
abbrev vC (c : AC) : AV := .s (.one c)
abbrev vP (x : PC) : AV := .s (.one (.p x))
abbrev vV (x : Value) : AV := .s (.one (.p (.v x)))
abbrev vI (n : Int) : AV := vV (.int .i64 n)
abbrev vU8 (n : Int) : AV := vV (.int .u8 n)
abbrev vU64 (n : Int) : AV := vV (.int .u64 n)
abbrev vB (b : Bool) : AV := vV (.bool b)
abbrev vS (s : ByteArray) : AV := vV (.string s)
abbrev vL (k : Nat) (es : List (List PC)) : AV := vP (.sl k es)
abbrev vA (cs : List PC) : AV := .s (.pag cs)

def I64 (n : Int) : Prop := -9223372036854775808 ≤ n ∧ n ≤ 9223372036854775807

theorem wrap_i64 {n : Int} (h : I64 n) : IntKind.wrap .i64 n = n := by
  unfold I64 at h
  exact IntWalk.i64_in n h

/-! ### operands -/
def ov (f : FF) : Operand → Option AV
  | .tmp t => f t
  | .const v => if isCell v then some (vV v) else none
  | .global g => some (vV (.pointer (some ⟨g, 0, none⟩)))
  | .func f => some (vC (.clo f [] []))

def opF (x : Operand) (v : AV) : Facts := match x with
  | .tmp t => [(t, v)]
  | _ => []

def OvAll (f : FF) : List (Operand × AV) → Prop
  | [] => True
  | p :: xs => ov f p.1 = some p.2 ∧ OvAll f xs

def RepAll (G : Frz) (ν : Pl) (ρ : Operand → Value) : List (Operand × AV) → Prop
  | [] => True
  | p :: xs => RepV G ν p.2 (ρ p.1) ∧ RepAll G ν ρ xs

def opFs (xs : List (Operand × AV)) : Facts := xs.flatMap fun p => opF p.1 p.2

theorem opFs_sub {f : FF} : ∀ {xs : List (Operand × AV)}, OvAll f xs → ∀ s v, (opFs xs).fn s = some v → f s = some v
  | [], _, s, v, h => by simp [opFs, Facts.fn, look] at h
  | (x, u) :: xs, hx, s, v, h => by
    cases x with
    | tmp t =>
      simp only [opFs, List.flatMap_cons, opF, List.singleton_append, Facts.fn, look] at h
      split at h
      · rename_i e; subst e; rw [← h]; exact hx.1
      · exact opFs_sub hx.2 s v h
    | _ =>
      simp only [opFs, List.flatMap_cons, opF, List.nil_append] at h
      exact opFs_sub hx.2 s v h

theorem rep_ov {G : Frz} {ν : Pl} {f : FF} {a : Act} (hf : ∀ s v, f s = some v → RepV G ν v (a.tmps.getD s undef)) {x : Operand} {v : AV} (h : ov f x = some v) : RepV G ν v (a.eval x) := by
  cases x with
  | tmp t => exact hf t v h
  | const c =>
    simp only [ov] at h
    split at h
    · rename_i hc; simp only [Option.some.injEq] at h; subst h; exact .v c hc
    · cases h
  | global g => simp only [ov, Option.some.injEq] at h; subst h; exact .v _ rfl
  | func g =>
    simp only [ov, Option.some.injEq] at h; subst h
    exact ⟨[], trivial, rfl⟩

theorem rep_all {G : Frz} {ν : Pl} {f : FF} {a : Act} (hf : ∀ s v, f s = some v → RepV G ν v (a.tmps.getD s undef)) : ∀ {xs : List (Operand × AV)}, OvAll f xs → RepAll G ν a.eval xs
  | [], _ => trivial
  | _ :: _, h => ⟨rep_ov hf h.1, rep_all hf h.2⟩

theorem OvAll.mem {f : FF} : ∀ {xs : List (Operand × AV)}, OvAll f xs → ∀ p ∈ xs, ov f p.1 = some p.2
  | p :: xs, h, q, hq => by
    rcases List.mem_cons.1 hq with e | e
    · subst e; exact h.1
    · exact OvAll.mem h.2 q e
theorem OvAll.of_mem {f : FF} : ∀ {_xs : List (Operand × AV)}, (∀ p ∈ _xs, ov f p.1 = some p.2) → OvAll f _xs
  | [], _ => trivial
  | p :: _, h => ⟨h p List.mem_cons_self, OvAll.of_mem fun q hq => h q (List.mem_cons_of_mem _ hq)⟩

theorem look_mem {α : Type} {l : List (Nat × α)} {t : Nat} {v : α} (h : (t, v) ∈ l) : ∃ v', look l t = some v' := by
  induction l with
  | nil => simp at h
  | cons p l ih =>
    obtain ⟨x, y⟩ := p
    simp only [look]
    split
    · exact ⟨_, rfl⟩
    · rename_i hne
      rcases List.mem_cons.1 h with e | e
      · simp only [Prod.mk.injEq] at e; exact (hne e.1.symm).elim
      · exact ih e

theorem ov_own {f : FF} {xs : List (Operand × AV)} (hx : OvAll f xs) : OvAll (opFs xs).fn xs := by
  refine OvAll.of_mem fun p hp => ?_
  have h := hx.mem p hp
  obtain ⟨x, v⟩ := p
  cases x with
  | tmp t =>
    obtain ⟨v', hv'⟩ := look_mem (l := opFs xs) (t := t) (v := v) (List.mem_flatMap.2 ⟨(.tmp t, v), hp, by simp [opF]⟩)
    have h' := opFs_sub hx t v' hv'
    simp only [ov] at h ⊢
    rw [h] at h'
    simp only [Option.some.injEq] at h'
    subst h'
    exact hv'
  | const c => exact h
  | global g => exact h
  | func g => exact h

/-! ### guards -/
/-- whether the operation is passed over -/
def GOk (ops : Array Oper) (F : Facts) (o : Oper) (skip : Bool) : Prop := match o.guard with
  | none => skip = false
  | some (j, want) => ∃ d c, (ops[j]?).bind (·.dst) = some d ∧ F.fn d = some (.s (.one (.p (.v (.bool c))))) ∧ skip = (c != want)

section
variable {P : Program} {ops : Array Oper} {n : Nat} {os : List Oper} {F : Facts} {B : BL} {evs : List Ev} {K : FF → BF → List Ev → Prop}

theorem Run.nil (h : K F.fn B.fn evs) : Run P ops n [] F B evs K := h

/-- the same facts, spelt otherwise -/
theorem Run.conv {F' : Facts} {B' : BL} (hF : F'.fn = F.fn) (hB : B'.fn = B.fn) (h : Run P ops n os F' B' evs K) : Run P ops n os F B evs K := by
  induction os generalizing F F' B B' evs with
  | nil => simp only [Run] at h ⊢; rw [← hF, ← hB]; exact h
  | cons o os ih =>
    obtain ⟨e, he, hfit, hr⟩ := h
    have hfit' : e.Fits P ops n F.fn B.fn := by rw [← hF, ← hB]; exact hfit
    refine ⟨e, he, hfit', ih (F' := e.F F') (B' := e.B B') ?_ ?_ hr⟩
    · rw [Ev.F_fn, Ev.F_fn, hF]
    · rw [Ev.B_fn hfit, Ev.B_fn hfit', hB]

/-- an operation by its local law -/
theorem Run.op {o : Oper} (xs : List (Operand × AV)) (Bi Bo : BL) (out : AV) (nk : List Key) (ro : Bool)
    (hg : GOk ops F o false) (hd : ∀ d, o.dst = some d → d < n) (hx : OvAll F.fn xs) (hb : ∀ κ x, Bi.fn κ = some x → B.fn κ = some x)
    (hdom : ∀ κ x, Bi.fn κ = some x → κ ∈ Bo.dom) (hro : ro = true → ∀ κ, κ ∈ Bo.dom → Bo.fn κ = B.fn κ)
    (ht : ∀ G ν a w, Sat G w → RepAll G ν a.eval xs → SatB G ν w Bi.fn →
      o.wp P a w (fun a' w' => ∃ G' ν' v, a' = a.put o.dst v ∧ RepV G' ν' out v ∧ Sat G' w' ∧ SatB G' ν' w' Bo.fn ∧
        Keep (blks ν Bi.fn) G w G' w' ∧ (∀ κ, κ ∉ nk → ν' κ = ν κ) ∧
        (∀ κ o, Bo.fn κ = some o → o.lives ν' κ → blks ν Bi.fn (ν' κ).1 ∨ w.heap.size ≤ (ν' κ).1))
      (fun _ _ _ => False))
    (h : Run P ops n os ((⟨o, false, opFs xs, Bi, out, Bo, nk, ro⟩ : Ev).F F) ((⟨o, false, opFs xs, Bi, out, Bo, nk, ro⟩ : Ev).B B) (evs ++ [⟨o, false, opFs xs, Bi, out, Bo, nk, ro⟩]) K) :
    Run P ops n (o :: os) F B evs K := by
  refine ⟨_, rfl, ⟨?_, hd, fun _ => ?_, fun _ => opFs_sub hx, fun _ => hb, fun _ => hdom, fun _ => hro⟩, h⟩
  · unfold GOk at hg; exact hg
  · intro G ν a w hS hf hB
    exact ht G ν a w hS (rep_all hf (ov_own hx)) hB

/-- an operation that is passed over -/
theorem Run.pass {o : Oper} (hg : GOk ops F o true) (hd : ∀ d, o.dst = some d → d < n)
    (h : Run P ops n os ((⟨o, true, [], [], .any, [], [], false⟩ : Ev).F F) B (evs ++ [⟨o, true, [], [], .any, [], [], false⟩]) K) : Run P ops n (o :: os) F B evs K := by
  refine ⟨_, rfl, ⟨?_, hd, fun h => absurd h (by decide : ¬ (true = false)), fun h => absurd h (by decide : ¬ (true = false)), fun h => absurd h (by decide : ¬ (true = false)), fun h => absurd h (by decide : ¬ (true = false)), fun h => absurd h (by decide : ¬ (true = false))⟩, h⟩
  unfold GOk at hg; exact hg

/-- an operation that touches no memory -/
theorem Run.pure {o : Oper} (d : Nat) (xs : List (Operand × AV)) (out : AV)
    (hg : GOk ops F o false) (hdst : o.dst = some d) (hd : Nat.blt d n = true) (hx : OvAll F.fn xs)
    (ht : ∀ G ν (ρ : Operand → Value) w, Sat G w → RepAll G ν ρ xs → ∃ v, (execOp ρ o).run P w = .ok (.value v) w ∧ RepV G ν out v)
    (h : Run P ops n os ((d, out) :: F) B (evs ++ [⟨o, false, opFs xs, [], out, [], [], false⟩]) K) :
    Run P ops n (o :: os) F B evs K := by
  refine Run.op xs [] [] out [] false hg (fun d' h' => by rw [hdst] at h'; cases h'; simpa using hd) hx (fun κ x h => by simp [BL.fn, look] at h) (fun κ x h => by simp [BL.fn, look] at h)
    (fun h => by cases h) ?_ ?_
  · intro G ν a w hS hr hB
    obtain ⟨v, hrun, hv⟩ := ht G ν a.eval w hS hr
    unfold Oper.wp
    rw [hrun]
    refine ⟨G, ν, v, rfl, hv, hS, hB, Keep.refl _ _ _, fun _ _ => rfl, fun κ o h => by simp [BL.fn, look] at h⟩
  · simpa [Ev.F, Ev.B, hdst] using h

/-- the test of a guard: performed, or passed over -/
theorem GOk.of {o : Oper} {j d : Nat} {want c : Bool} (hg : o.guard = some (j, want)) (hd : (ops[j]?).bind (·.dst) = some d) (hf : F.fn d = some (vB c)) (skip : Bool) (hs : skip = (c != want)) : GOk ops F o skip := by
  unfold GOk; rw [hg]; exact ⟨d, c, hd, hf, hs⟩
theorem GOk.no {o : Oper} (hg : o.guard = none) : GOk ops F o false := by
  unfold GOk; rw [hg]

end
end Go.Abs
