/-
  Joins, loops with steps of the reading, the simple step.
-/
import Derived.Test.YtfaepfnjilgioaaDoorScA22
set_option linter.all false
set_option linter.unusedSimpArgs false
set_option linter.unusedVariables false
namespace Go.Abs
open Go

/-- facts that hold as they are spelt -/
def FSub (f : FF) : Facts → Prop
  | [] => True
  | p :: l => f p.1 = some p.2 ∧ FSub f l
theorem FSub.sub {f : FF} : ∀ {F : Facts}, FSub f F → ∀ s v, F.fn s = some v → f s = some v
  | [], _, s, v, h => by simp [Facts.fn, look] at h
  | p :: F, h, s, v, hs => by
    simp only [Facts.fn, look] at hs
    split at hs
    · rename_i e; subst e; simp at hs; subst hs; exact h.1
    · exact FSub.sub h.2 s v hs

theorem Gh.weak {f : FF} {b : BF} (F : Facts) (B : BL) (hF : FSub f F) (hB : BiOk b B) : Gh f b F.fn B.fn := by
  intro n G ν a w hfit
  have hb := hB.sub
  refine ⟨G, ν, ⟨hfit.sat, ⟨hfit.holds.size, hfit.holds.defers, fun s v hs => hfit.holds.fact s v (hF.sub s v hs)⟩,
    ⟨fun κ o ho => hfit.objs.obj κ o (hb κ o ho), fun κ o ho => hfit.objs.free κ o (hb κ o ho), fun κ o ho => hfit.objs.lt κ o (hb κ o ho),
      fun κ κ' o o' ho ho' => hfit.objs.apart κ κ' o o' (hb κ o ho) (hb κ' o' ho')⟩⟩, ⟨Keep.refl _ _ _, fun _ _ => rfl, fun r ⟨κ, o, h, hl, hr⟩ => Or.inl ⟨κ, o, hb κ o h, hl, hr⟩⟩⟩

theorem Gh.refl (f : FF) (b : BF) : Gh f b f b := fun _ G ν _ _ hfit => ⟨G, ν, hfit, Since.refl _ _ _ _ _⟩
theorem Gh.trans {f f' f'' : FF} {b b' b'' : BF} (h : Gh f b f' b') (h' : Gh f' b' f'' b'') : Gh f b f'' b'' := fun n G ν a w hfit =>
  let ⟨G', ν', h1, h2⟩ := h n G ν a w hfit
  let ⟨G'', ν'', h3, h4⟩ := h' n G' ν' a w h1
  ⟨G'', ν'', h3, h2.step h4 fun _ h => h⟩

section
variable {P : Program} {n : Nat} {Q : Exit → FF → BF → Prop} {f : FF} {b : BF}

/-- where two ways come together -/
def toQ (M : FF → BF → Prop) (Q : Exit → FF → BF → Prop) : Exit → FF → BF → Prop
  | .normal, f, b => ∃ f' b', Gh f b f' b' ∧ M f' b'
  | e, f, b => Q e f b

theorem J.join {x y : Code} (M : FF → BF → Prop) (hnext : ∀ f b, M f b → J P n y Q f b) (h : J P n x (toQ M Q) f b) : J P n (.seq x y) Q f b := by
  refine J.seq (J.mono ?_ h)
  intro e f b hq
  cases e with
  | normal =>
    obtain ⟨f', b', hg, hm⟩ := hq
    exact J.gh hg (hnext f' b' hm)
  | _ => exact hq

/-- the state that is told -/
theorem J.joinF {x y : Code} (F : Facts) (B : BL) (hnext : J P n y Q F.fn B.fn) (h : J P n x (toQ (fun f b => f = F.fn ∧ b = B.fn) Q) f b) : J P n (.seq x y) Q f b :=
  J.join _ (fun _ _ ⟨e1, e2⟩ => by subst e1 e2; exact hnext) h

theorem toQ.mk {M : FF → BF → Prop} {f' : FF} {b' : BF} (hg : Gh f b f' b') (hm : M f' b') : ∃ f' b', Gh f b f' b' ∧ M f' b' := ⟨f', b', hg, hm⟩

/-- a loop whose rounds end in a step of the reading -/
theorem J.loopG {σ : Type} {c : Code} (I : σ → FF → BF → Prop) (μ : σ → Nat) (s₀ : σ) (h₀ : I s₀ f b)
    (round : ∀ s f b, I s f b → J P n c (toQ (fun f' b' => ∃ s', I s' f' b' ∧ μ s' < μ s) Q) f b) : J P n (.loop c) Q f b := by
  refine J.loop I μ s₀ h₀ fun s f b hI => ?_
  refine J.post (J.mono ?_ (round s f b hI))
  intro e f b hq
  cases e with
  | normal => exact hq
  | _ => exact ⟨_, _, Gh.refl _ _, hq⟩

/-- the end of a function, with a step of the reading -/
theorem FinQ.step {rs : List ResultVar} {outs : List SV} {Bo : BL} {s : Key → Key} {c : Code} (h : J P n c (fun e f b => ∃ f' b', Gh f b f' b' ∧ FinQ P rs outs Bo s e f' b') f b) : J P n c (FinQ P rs outs Bo s) f b := J.post h
end

/-- the same contract, of arguments that are told otherwise -/
theorem Con.arg {P : Program} {f : FuncId} {args args' : List SV} {Bi : BL} {outs : List SV} {Bo : BL} {nk : List Key} (h : Con P f args Bi outs Bo nk)
    (ha : ∀ G ν (vs : List Value), All2 (RepS G ν) args' vs → All2 (RepS G ν) args vs) : Con P f args' Bi outs Bo nk :=
  ⟨h.1, fun G ν w vs hS hr hB => h.2 G ν w vs hS (ha G ν vs hr) hB⟩

theorem nil_arg {G : Frz} {ν : Pl} {k : Nat} {v : Value} (h : RepS G ν (.one (.p (.v (.slice none 0 0)))) v) : RepS G ν (.one (.p (.sl k []))) v := by
  cases h
  exact .sl 0 0 (fun _ => undef) (Nat.le_refl _) (by simp) (fun h => (h rfl).elim) (by simp) (by simp)

/-! ### rows of encoded things -/
section
variable {P : Program} {ops : Array Oper} {n : Nat} {os : List Oper} {F : Facts} {B : BL} {evs : List Ev} {K : FF → BF → List Ev → Prop}
variable {d t u ty : Nat} {x y z : Operand} {pos : String} {aft : Array Edge} {g : Option (Nat × Bool)}

theorem get_map {α : Type} [Inhabited α] {l : List α} {enc : α → List PC} {i : Nat} (h : i < l.length) : (l.map enc)[i]? = some (enc l[i]!) := by
  rw [List.getElem?_map, List.getElem?_eq_getElem h]
  simp [h]

theorem R.idxM {α : Type} [Inhabited α] {l : List α} {enc : α → List PC} {k e : Nat} {κ' : IntKind} {i : Int} (hu : P.underlying t = some (.slice e)) (hs : ∀ w, (sizeOf e).run P w = .ok k w)
    (hg : GOk ops F ⟨some d, .indexAddr t x y, ty, pos, aft, g⟩ false) (hd : Nat.blt d n = true) (hx : ov F.fn x = some (vL k (l.map enc))) (hy : ov F.fn y = some (vV (.int κ' i)))
    (h0 : 0 ≤ i) (h1 : i < l.length)
    (h : Run P ops n os ((d, vC (.at_ (enc l[i.toNat]!))) :: F) B (evs ++ [ev0 ⟨some d, .indexAddr t x y, ty, pos, aft, g⟩ [(x, vL k (l.map enc)), (y, vV (.int κ' i))] (vC (.at_ (enc l[i.toNat]!)))]) K) :
    Run P ops n (⟨some d, .indexAddr t x y, ty, pos, aft, g⟩ :: os) F B evs K :=
  R.idxSl hu hs hg hd hx hy h0 (get_map (by omega)) h

theorem R.ldElMA {α : Type} [Inhabited α] {l : List α} {enc : α → List PC} {κ k i j m : Nat} (ha : ∀ w, (isAgg t).run P w = .ok true w) (hs : ∀ w, (sizeOf t).run P w = .ok m w)
    (hg : GOk ops F ⟨some d, .load t x, ty, pos, aft, g⟩ false) (hd : Nat.blt d n = true) (hx : ov F.fn x = some (vC (.el κ k i j))) (hb : B.fn κ = some (.hot k (l.map enc))) (hi : i < l.length) (hm : m ≤ ((enc l[i]!).drop j).length)
    (h : Run P ops n os ((d, vA (((enc l[i]!).drop j).take m)) :: F) B (evs ++ [⟨⟨some d, .load t x, ty, pos, aft, g⟩, false, opFs [(x, vC (.el κ k i j))], [(κ, some (.hot k (l.map enc)))], vA (((enc l[i]!).drop j).take m), [(κ, some (.hot k (l.map enc)))], [], true⟩]) K) :
    Run P ops n (⟨some d, .load t x, ty, pos, aft, g⟩ :: os) F B evs K :=
  R.ldElA ha hs hg hd hx hb (get_map hi) hm h

theorem R.ldElM1 {α : Type} [Inhabited α] {l : List α} {enc : α → List PC} {κ k i j : Nat} {c : PC} (ha : ∀ w, (isAgg t).run P w = .ok false w)
    (hg : GOk ops F ⟨some d, .load t x, ty, pos, aft, g⟩ false) (hd : Nat.blt d n = true) (hx : ov F.fn x = some (vC (.el κ k i j))) (hb : B.fn κ = some (.hot k (l.map enc))) (hi : i < l.length) (hc : (enc l[i]!)[j]? = some c)
    (h : Run P ops n os ((d, vP c) :: F) B (evs ++ [⟨⟨some d, .load t x, ty, pos, aft, g⟩, false, opFs [(x, vC (.el κ k i j))], [(κ, some (.hot k (l.map enc)))], vP c, [(κ, some (.hot k (l.map enc)))], [], true⟩]) K) :
    Run P ops n (⟨some d, .load t x, ty, pos, aft, g⟩ :: os) F B evs K :=
  R.ldEl1 ha hg hd hx hb (by rw [get_map hi]; exact hc) h

/-- an operation that is passed over -/
theorem R.pass {op : Op} (hg : GOk ops F ⟨some d, op, ty, pos, aft, g⟩ true) (hd : Nat.blt d n = true)
    (h : Run P ops n os ((d, .any) :: F) B (evs ++ [⟨⟨some d, op, ty, pos, aft, g⟩, true, [], [], .any, [], [], false⟩]) K) : Run P ops n (⟨some d, op, ty, pos, aft, g⟩ :: os) F B evs K :=
  Run.pass hg (fun d' h' => by cases h'; simpa using hd) h
theorem R.pass0 {op : Op} (hg : GOk ops F ⟨none, op, ty, pos, aft, g⟩ true)
    (h : Run P ops n os F B (evs ++ [⟨⟨none, op, ty, pos, aft, g⟩, true, [], [], .any, [], [], false⟩]) K) : Run P ops n (⟨none, op, ty, pos, aft, g⟩ :: os) F B evs K :=
  Run.pass hg (fun d' h' => by cases h') h

/-- a conversion that changes nothing -/
theorem R.convI {src dst : Nat} {k k' : IntKind} {a : Int} (hg : GOk ops F ⟨some d, .convert src dst x, ty, pos, aft, g⟩ false) (hd : Nat.blt d n = true)
    (hx : ov F.fn x = some (vV (.int k a))) (hs : P.underlying src = some (.int k)) (ht : P.underlying dst = some (.int k')) (hw : k'.wrap a = a)
    (h : Run P ops n os ((d, vV (.int k' a)) :: F) B (evs ++ [ev0 ⟨some d, .convert src dst x, ty, pos, aft, g⟩ [(x, vV (.int k a))] (vV (.int k' a))]) K) :
    Run P ops n (⟨some d, .convert src dst x, ty, pos, aft, g⟩ :: os) F B evs K :=
  R.conv hg hd hx hs ht (by rw [hw]; exact h)
end

end Go.Abs
