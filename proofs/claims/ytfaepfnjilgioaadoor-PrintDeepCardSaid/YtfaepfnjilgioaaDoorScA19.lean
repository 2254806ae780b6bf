/-
  Calls by contract, in a region.
-/
import Derived.Test.YtfaepfnjilgioaaDoorScA18
set_option linter.all false
set_option linter.unusedSimpArgs false
set_option linter.unusedVariables false
namespace Go.Abs
open Go

/-- objects that are there -/
def BiOk (b : BF) : BL → Prop
  | [] => True
  | (κ, some o) :: l => b κ = some o ∧ BiOk b l
  | (_, none) :: l => BiOk b l
theorem BiOk.sub {b : BF} : ∀ {l : BL}, BiOk b l → ∀ κ x, l.fn κ = some x → b κ = some x
  | [], _, κ, x, h => (noB h).elim
  | (κ₀, some o) :: l, h, κ, x, hx => by
    simp only [BL.fn, look] at hx
    split at hx
    · rename_i e; subst e; simp at hx; subst hx; exact h.1
    · exact BiOk.sub h.2 κ x hx
  | (κ₀, none) :: l, h, κ, x, hx => by
    simp only [BL.fn, look] at hx
    split at hx
    · simp at hx
    · exact BiOk.sub (l := l) h κ x hx

/-- objects that are as they were -/
def RoOk (b : BF) : BL → Prop
  | [] => True
  | (κ, o) :: l => b κ = o ∧ RoOk b l
theorem RoOk.same {b : BF} : ∀ {l : BL}, RoOk b l → ∀ κ, κ ∈ l.dom → l.fn κ = b κ
  | [], _, κ, h => by simp [BL.dom] at h
  | (κ₀, o) :: l, h, κ, hκ => by
    simp only [BL.fn, look]
    split
    · rename_i e; subst e; simp [h.1]
    · rename_i hne
      refine RoOk.same h.2 κ ?_
      simp only [BL.dom, List.map_cons, List.mem_cons] at hκ
      exact hκ.resolve_left (fun e => hne e.symm)

def domOk (Bi Bo : BL) : Bool := Bi.dom.all (Bo.dom.contains ·)

section
variable {P : Program} {ops : Array Oper} {n : Nat} {os : List Oper} {F : Facts} {B : BL} {evs : List Ev} {K : FF → BF → List Ev → Prop}
variable {d t u ty : Nat} {x y z : Operand} {pos : String} {aft : Array Edge} {g : Option (Nat × Bool)}

theorem Run.call {o : Oper} {f : FuncId} {cargs : List SV} {Bi Bo : BL} {outs : List SV} {nk : List Key} (xs : List (Operand × AV)) (ro : Bool) (hc : Con P f cargs Bi outs Bo nk)
    (hg : GOk ops F o false) (hd : ∀ d, o.dst = some d → Nat.blt d n = true) (hx : OvAll F.fn xs) (hb : BiOk B.fn Bi) (hdom : domOk Bi Bo = true) (hro : ro = true → RoOk B.fn Bo)
    (hrun : ∀ G ν (ρ : Operand → Value), RepAll G ν ρ xs → ∃ vs : List Value, All2 (RepS G ν) cargs vs ∧ ∀ w, (execOp ρ o).run P w = .ok (.enter f vs.toArray) w)
    (h : Run P ops n os ((⟨o, false, opFs xs, Bi, outAV outs, Bo, nk, ro⟩ : Ev).F F) ((⟨o, false, opFs xs, Bi, outAV outs, Bo, nk, ro⟩ : Ev).B B) (evs ++ [⟨o, false, opFs xs, Bi, outAV outs, Bo, nk, ro⟩]) K) :
    Run P ops n (o :: os) F B evs K := by
  refine Run.op xs Bi Bo (outAV outs) nk ro hg (fun d h => by simpa using hd d h) hx hb.sub (fun κ x h => ?_) (fun h κ hκ => (hro h).same κ hκ) ?_ h
  · have := List.all_eq_true.1 hdom κ (keys_of_fn h).1
    exact List.contains_iff_mem.1 this
  · intro G ν a w hS hr hB
    obtain ⟨vs, h1, h2⟩ := hrun G ν a.eval hr
    unfold Oper.wp
    rw [h2, Oper.upon_enter]
    refine Calls.mono (hc.2 G ν w vs hS h1 hB) ?_
    rintro e w' ⟨v, rfl, G', ν', p1, p2, p3, p4, p5, p6⟩
    exact ⟨G', ν', v, rfl, p1, p2, p3, p4, p5, p6⟩

theorem run_callFunc {f : FuncId} {args : Array Value} (h : CallOk P f) (w : World) : (callFunc f args).run P w = .ok (.enter f args) w := by
  obtain ⟨fn, h1, h2, h3⟩ := h
  unfold callFunc
  rw [Sem.run_bind, run_program]
  simp only [Result.andThen, h1, h2, h3]
  rfl

theorem rep_args {G : Frz} {ν : Pl} {ρ : Operand → Value} : ∀ {as : List (Operand × SV)}, RepAll G ν ρ (as.map fun p => (p.1, .s p.2)) → All2 (RepS G ν) (as.map (·.2)) (as.map fun p => ρ p.1)
  | [], _ => trivial
  | _ :: _, h => ⟨h.1, rep_args h.2⟩

theorem R.call0 {f : FuncId} {Bi Bo : BL} {outs : List SV} {nk : List Key} {argOps : Array Operand} {tys : Array TypeId} {dst : Option Nat} (as : List (Operand × SV)) (ro : Bool) (hc : Con P f (as.map (·.2)) Bi outs Bo nk)
    (ha : argOps = (as.map (·.1)).toArray) (hg : GOk ops F ⟨dst, .call ⟨.value (.func f), argOps, tys⟩, ty, pos, aft, g⟩ false) (hd : ∀ d, dst = some d → Nat.blt d n = true) (hx : OvAll F.fn (as.map fun p => (p.1, .s p.2)))
    (hb : BiOk B.fn Bi) (hdom : domOk Bi Bo = true) (hro : ro = true → RoOk B.fn Bo)
    (h : Run P ops n os ((⟨⟨dst, .call ⟨.value (.func f), argOps, tys⟩, ty, pos, aft, g⟩, false, opFs (as.map fun p => (p.1, .s p.2)), Bi, outAV outs, Bo, nk, ro⟩ : Ev).F F)
      ((⟨⟨dst, .call ⟨.value (.func f), argOps, tys⟩, ty, pos, aft, g⟩, false, opFs (as.map fun p => (p.1, .s p.2)), Bi, outAV outs, Bo, nk, ro⟩ : Ev).B B)
      (evs ++ [⟨⟨dst, .call ⟨.value (.func f), argOps, tys⟩, ty, pos, aft, g⟩, false, opFs (as.map fun p => (p.1, .s p.2)), Bi, outAV outs, Bo, nk, ro⟩]) K) :
    Run P ops n (⟨dst, .call ⟨.value (.func f), argOps, tys⟩, ty, pos, aft, g⟩ :: os) F B evs K := by
  refine Run.call ((.func f, vC (.clo f [] [])) :: as.map (fun p : Operand × SV => (p.1, AV.s p.2))) ro hc hg hd ⟨rfl, hx⟩ hb hdom hro (fun G ν ρ hr => ⟨as.map fun p => ρ p.1, rep_args hr.2, fun w => ?_⟩) h
  subst ha
  have e : (execOp ρ ⟨dst, .call ⟨.value (.func f), (as.map (·.1)).toArray, tys⟩, ty, pos, aft, g⟩) = (do let d ← Deferred.ofValue (ρ (.func f)) ((as.map (·.1)).toArray.map ρ); invoke d.target d.args) := rfl
  obtain ⟨fs, h1, h2⟩ := hr.1
  have hfs : fs = [] := by cases fs with | nil => rfl | cons => exact h1.elim
  subst hfs
  rw [e, Sem.run_bind, h2]
  simp only [Deferred.ofValue, Sem.run_pure, Result.andThen, invoke]
  rw [run_callFunc hc.1]
  congr 2
  simp

/-- a call whose contract speaks of no object -/
theorem R.call {f : FuncId} {outs : List SV} {argOps : Array Operand} {tys : Array TypeId} (as : List (Operand × SV)) (hc : Con P f (as.map (·.2)) [] outs [] [])
    (ha : argOps = (as.map (·.1)).toArray) (hg : GOk ops F ⟨some d, .call ⟨.value (.func f), argOps, tys⟩, ty, pos, aft, g⟩ false) (hd : Nat.blt d n = true) (hx : OvAll F.fn (as.map fun p => (p.1, .s p.2)))
    (h : Run P ops n os ((d, outAV outs) :: F) B (evs ++ [ev0 ⟨some d, .call ⟨.value (.func f), argOps, tys⟩, ty, pos, aft, g⟩ (as.map fun p => (p.1, .s p.2)) (outAV outs)]) K) :
    Run P ops n (⟨some d, .call ⟨.value (.func f), argOps, tys⟩, ty, pos, aft, g⟩ :: os) F B evs K :=
  R.call0 as false hc ha hg (fun d' h' => by cases h'; exact hd) hx trivial rfl (fun h => by cases h) (by simpa [Ev.F, Ev.B] using h)

/-- a call of a function value -/
theorem R.callV {f : FuncId} {Bi Bo : BL} {outs : List SV} {nk : List Key} {argOps : Array Operand} {tys : Array TypeId} {dst : Option Nat} {first : List (List PC)} {caps : List Key} (as : List (Operand × SV)) (ro : Bool)
    (hc : Con P f (first.map .pag ++ as.map (·.2) ++ caps.map fun κ => .one (.ptr κ 0)) Bi outs Bo nk)
    (ha : argOps = (as.map (·.1)).toArray) (hg : GOk ops F ⟨dst, .call ⟨.value (.tmp t), argOps, tys⟩, ty, pos, aft, g⟩ false) (hd : ∀ d, dst = some d → Nat.blt d n = true) (hf : F.fn t = some (vC (.clo f first caps))) (hx : OvAll F.fn (as.map fun p => (p.1, .s p.2)))
    (hb : BiOk B.fn Bi) (hdom : domOk Bi Bo = true) (hro : ro = true → RoOk B.fn Bo)
    (h : Run P ops n os ((⟨⟨dst, .call ⟨.value (.tmp t), argOps, tys⟩, ty, pos, aft, g⟩, false, opFs ((.tmp t, vC (.clo f first caps)) :: as.map fun p => (p.1, .s p.2)), Bi, outAV outs, Bo, nk, ro⟩ : Ev).F F)
      ((⟨⟨dst, .call ⟨.value (.tmp t), argOps, tys⟩, ty, pos, aft, g⟩, false, opFs ((.tmp t, vC (.clo f first caps)) :: as.map fun p => (p.1, .s p.2)), Bi, outAV outs, Bo, nk, ro⟩ : Ev).B B)
      (evs ++ [⟨⟨dst, .call ⟨.value (.tmp t), argOps, tys⟩, ty, pos, aft, g⟩, false, opFs ((.tmp t, vC (.clo f first caps)) :: as.map fun p => (p.1, .s p.2)), Bi, outAV outs, Bo, nk, ro⟩]) K) :
    Run P ops n (⟨dst, .call ⟨.value (.tmp t), argOps, tys⟩, ty, pos, aft, g⟩ :: os) F B evs K := by
  refine Run.call ((.tmp t, vC (.clo f first caps)) :: as.map fun p => (p.1, .s p.2)) ro hc hg hd ⟨hf, hx⟩ hb hdom hro (fun G ν ρ hr => ?_) h
  obtain ⟨fs, h1, h2⟩ := hr.1
  refine ⟨fs ++ (as.map fun p => ρ p.1) ++ caps.map fun κ => .pointer (some ⟨(ν κ).1, 0, none⟩), ?_, fun w => ?_⟩
  · refine All2.append (All2.append ?_ (rep_args hr.2)) ?_
    · have : ∀ {l : List (List PC)} {vs : List Value}, All2 (fun cs x => ∃ us, x = .agg us ∧ All2 (RepP G) cs us.toList) l vs → All2 (RepS G ν) (l.map .pag) vs := by
        intro l
        induction l with
        | nil => intro vs h; cases vs with | nil => trivial | cons => exact h.elim
        | cons a l ih => intro vs h; cases vs with | nil => exact h.elim | cons v vs => exact ⟨h.1, ih h.2⟩
      exact this h1
    · have : ∀ l : List Key, All2 (RepS G ν) (l.map fun κ => .one (.ptr κ 0)) (l.map fun κ => Value.pointer (some ⟨(ν κ).1, 0, none⟩)) := by
        intro l
        induction l with
        | nil => trivial
        | cons a l ih => exact ⟨rfl, ih⟩
      exact this caps
  · subst ha
    have e : (execOp ρ ⟨dst, .call ⟨.value (.tmp t), (as.map (·.1)).toArray, tys⟩, ty, pos, aft, g⟩) = (do let d ← Deferred.ofValue (ρ (.tmp t)) ((as.map (·.1)).toArray.map ρ); invoke d.target d.args) := rfl
    rw [e, Sem.run_bind, h2]
    simp only [Deferred.ofValue, Sem.run_pure, Result.andThen, invoke]
    rw [run_callFunc hc.1]
    congr 2
    simp

/-- a function value made -/
theorem R.mkFunc {f : FuncId} {first captured : Array Operand} (fs : List (Operand × List PC)) (cs : List (Operand × Key)) (hf : first = (fs.map (·.1)).toArray) (hcap : captured = (cs.map (·.1)).toArray)
    (hg : GOk ops F ⟨some d, .makeFunc (.func f) first captured, ty, pos, aft, g⟩ false) (hd : Nat.blt d n = true) (hx : OvAll F.fn ((fs.map fun p => (p.1, vA p.2)) ++ cs.map fun p => (p.1, vC (.ptr p.2 0))))
    (h : Run P ops n os ((d, vC (.clo f (fs.map (·.2)) (cs.map (·.2)))) :: F) B (evs ++ [ev0 ⟨some d, .makeFunc (.func f) first captured, ty, pos, aft, g⟩ ((fs.map fun p => (p.1, vA p.2)) ++ cs.map fun p => (p.1, vC (.ptr p.2 0))) (vC (.clo f (fs.map (·.2)) (cs.map (·.2))))]) K) :
    Run P ops n (⟨some d, .makeFunc (.func f) first captured, ty, pos, aft, g⟩ :: os) F B evs K := by
  refine Run.pure d _ _ hg rfl hd hx (fun G ν ρ w _ hr => ?_) h
  have hsplit : ∀ {l l' : List (Operand × AV)}, RepAll G ν ρ (l ++ l') → RepAll G ν ρ l ∧ RepAll G ν ρ l' := by
    intro l
    induction l with
    | nil => intro l' h; exact ⟨trivial, h⟩
    | cons a l ih => intro l' h; exact ⟨⟨h.1, (ih h.2).1⟩, (ih h.2).2⟩
  obtain ⟨h1, h2⟩ := hsplit hr
  have e2 : ∀ (l : List (Operand × Key)), RepAll G ν ρ (l.map fun p => (p.1, vC (.ptr p.2 0))) → l.map (fun p => ρ p.1) = (l.map (·.2)).map fun κ => Value.pointer (some ⟨(ν κ).1, 0, none⟩) := by
    intro l
    induction l with
    | nil => intro _; rfl
    | cons a l ih => intro h; simp only [List.map_cons]; rw [ih h.2]; congr 1; exact h.1
  refine ⟨.func (.func f) ((fs.map fun p => ρ p.1)).toArray (cs.map fun p => ρ p.1).toArray, ?_, fs.map fun p => ρ p.1, ?_, ?_⟩
  · subst hf hcap
    simp [execOp, Instr.makeFunc, Sem.run_bind, Result.andThen, Function.comp_def]
  · have : ∀ l : List (Operand × List PC), RepAll G ν ρ (l.map fun p => (p.1, vA p.2)) → All2 (fun cs x => ∃ us, x = .agg us ∧ All2 (RepP G) cs us.toList) (l.map (·.2)) (l.map fun p => ρ p.1) := by
      intro l
      induction l with
      | nil => intro _; trivial
      | cons a l ih => intro h; exact ⟨h.1, ih h.2⟩
    exact this fs h1
  · rw [e2 cs h2]

end
end Go.Abs
