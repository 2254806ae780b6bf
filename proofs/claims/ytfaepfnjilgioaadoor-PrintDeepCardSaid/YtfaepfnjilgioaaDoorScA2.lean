/-
  One operation as a local law, and regions, in whatever order their edges allow.
-/
import Derived.Test.YtfaepfnjilgioaaDoorScA1
import Derived.Orders
set_option linter.all false
set_option linter.unusedSimpArgs false
set_option linter.unusedVariables false
namespace Go.Abs
open Go

/-- One operation, told locally: from what the slots in Fi and the objects in Bi hold, it comes to a value of the form 'out', and to the objects Bo (those of Bi and new ones).
    nk: keys that are new behind it. -/
def Tri (P : Program) (o : Oper) (Fi : FF) (Bi : BF) (out : AV) (Bo : BF) (nk : List Key) : Prop :=
  ∀ G ν a w, Sat G w → (∀ s v, Fi s = some v → RepV G ν v (a.tmps.getD s undef)) → SatB G ν w Bi →
    o.wp P a w (fun a' w' => ∃ G' ν' v, a' = a.put o.dst v ∧ RepV G' ν' out v ∧ Sat G' w' ∧ SatB G' ν' w' Bo ∧
        Keep (blks ν Bi) G w G' w' ∧ (∀ κ, κ ∉ nk → ν' κ = ν κ) ∧
        (∀ κ o, Bo κ = some o → o.lives ν' κ → blks ν Bi (ν' κ).1 ∨ w.heap.size ≤ (ν' κ).1))
      (fun _ _ _ => False)

/-- a value put into a slot -/
def FF.put (f : FF) (d : Option Tmp) (x : AV) : FF := match d with
  | some d => fun s => if d = s then some x else f s
  | none => f

/-- objects laid over others: 'dom': the keys that are spoken of -/
def BF.over (b : BF) (dom : List Key) (b' : BF) : BF := fun κ => if κ ∈ dom then b' κ else b κ

/-- no slot's value and no object names a key of the list, nor is it there -/
def Fresh (nk : List Key) (f : FF) (b : BF) : Prop :=
  (∀ s v, f s = some v → ∀ κ ∈ nk, κ ∉ v.keys) ∧ (∀ κ o, b κ = some o → κ ∉ nk ∧ ∀ κ' ∈ nk, κ' ∉ o.keys)

theorem RepC.of_same {G : Frz} {ν ν' : Pl} {c : AC} {v : Value} (hν : ∀ κ ∈ c.keys, ν' κ = ν κ) (r : RepC G ν c v) : RepC G ν' c v := RepC.mono G.le_refl hν r

theorem SatO.mono {G G' : Frz} {ν ν' : Pl} {w w' : World} {κ : Key} {o : AO} (hG : G.le G') (hk : ν' κ = ν κ) (hν : ∀ κ' ∈ o.keys, ν' κ' = ν κ')
    (hw : o.lives ν κ → w'.heap[(ν κ).1]? = w.heap[(ν κ).1]?) (h : SatO G ν w κ o) : SatO G' ν' w' κ o := by
  cases o with
  | box cs =>
    obtain ⟨us, e, hb, hr⟩ := h
    refine ⟨us, e, ?_, All2.monoK hG hν hr⟩
    rw [hk, hw trivial]; exact hb
  | pbox cs =>
    obtain ⟨us, e, hb, hr⟩ := h
    refine ⟨us, e, ?_, hr.mono fun _ _ hh => hh.mono hG⟩
    rw [hk, hw trivial]; exact hb
  | hot k es =>
    obtain ⟨h1, h2, h3⟩ := h
    refine ⟨by rw [hk]; exact h1, h2, fun hne => ?_⟩
    rw [hk] at hne ⊢
    obtain ⟨us, e, hb, hc, hr⟩ := h3 hne
    exact ⟨us, e, by rw [hw hne]; exact hb, hc, fun i j c hc => let ⟨u, hu, hr⟩ := hr i j c hc; ⟨u, hu, hr.mono hG⟩⟩
  | raw R =>
    obtain ⟨o, hb, hr⟩ := h
    refine ⟨o, ?_, fun G'' h'' => hr G'' (Frz.le_trans hG h'')⟩
    rw [hk, hw trivial]; exact hb
  | mapo es =>
    obtain ⟨ents, clock, hb, hr⟩ := h
    refine ⟨ents, clock, ?_, hr.mono hG hν⟩
    rw [hk, hw trivial]; exact hb
  | glob g cs q =>
    obtain ⟨h0, h1, us, e, fr, hb, hr⟩ := h
    refine ⟨by rw [hk]; exact h0, ?_, us, e, fr, hb, hr.mono fun _ _ hh => hh.mono hG⟩
    rw [hk, hw trivial]; exact h1
  | gmap g es q =>
    obtain ⟨h0, h1, ents, clock, hb, hr⟩ := h
    refine ⟨by rw [hk]; exact Frz.le_get hG h0, ?_, ents, clock, hb, hr.mono hG hν⟩
    rw [hk, hw trivial]; exact h1

theorem AO.lives_same {ν ν' : Pl} {κ : Key} {o : AO} (hk : ν' κ = ν κ) : o.lives ν' κ ↔ o.lives ν κ := by
  cases o <;> simp [AO.lives, hk]

theorem getD_put (a : Act) (d : Option Tmp) (v : Value) (n : Nat) (hn : a.tmps.size = n) (s : Nat) :
    (a.put d v).tmps.getD s undef = if d = some s ∧ s < n then v else a.tmps.getD s undef := by
  cases d with
  | none => simp [Act.put]
  | some d =>
    simp only [Act.put, Option.some.injEq]
    by_cases hd : d = s
    · subst hd
      by_cases hs : d < n
      · simp [hs, hn]
      · simp [hs, hn]
    · simp [hd, Array.getElem?_setIfInBounds_ne hd]

/-- the step of the whole state that a local law gives -/
theorem step_of_tri {P : Program} {o : Oper} {Fi : FF} {Bi : BF} {out : AV} {Bo : BF} {nk dom : List Key} {Q : Exit → Act → World → Prop}
    (ht : Tri P o Fi Bi out Bo nk) {G : Frz} {ν : Pl} {n : Nat} {f : FF} {b : BF} {a : Act} {w : World}
    (hS : Sat G w) (hF : Holds G ν n f a) (hB : SatB G ν w b)
    (hFi : ∀ s v, Fi s = some v → f s = some v) (hBi : ∀ κ o, Bi κ = some o → b κ = some o)
    (hdom : ∀ κ o, Bi κ = some o → κ ∈ dom) (hnk : Fresh nk f b) (hd : ∀ d, o.dst = some d → d < n)
    (K : Act → World → Prop)
    (hK : ∀ G' ν' a' w', Sat G' w' → Holds G' ν' n (f.put o.dst out) a' → SatB G' ν' w' (b.over dom Bo) →
      Keep (blks ν b) G w G' w' → (∀ κ, κ ∉ nk → ν' κ = ν κ) → (∀ r, blks ν' (b.over dom Bo) r → blks ν b r ∨ w.heap.size ≤ r) → K a' w') :
    o.wp P a w K Q := by
  have hBi' : SatB G ν w Bi := {
    obj := fun κ o h => hB.obj κ o (hBi κ o h), free := fun κ o h => hB.free κ o (hBi κ o h), lt := fun κ o h => hB.lt κ o (hBi κ o h)
    apart := fun κ κ' o o' h h' => hB.apart κ κ' o o' (hBi κ o h) (hBi κ' o' h') }
  have hsub : ∀ r, blks ν Bi r → blks ν b r := fun r ⟨κ, o, h, hl, hr⟩ => ⟨κ, o, hBi κ o h, hl, hr⟩
  have h := ht G ν a w hS (fun s v hs => (hF.fact s v (hFi s v hs)).2) hBi'
  have h2 : o.wp P a w K (fun _ _ _ => False) := by
    refine Oper.wp_mono ?_ h
    rintro a' w' ⟨G', ν', v, rfl, hv, hS', hB', hk, hν, hnew⟩
    have hkeep : Keep (blks ν b) G w G' w' := hk.mono fun r _ hr => hsub r hr
    -- objects that are not spoken of
    have hother : ∀ κ o, b κ = some o → κ ∉ dom → ν' κ = ν κ ∧ (∀ κ' ∈ o.keys, ν' κ' = ν κ') ∧ (o.lives ν κ → w'.heap[(ν κ).1]? = w.heap[(ν κ).1]? ∧ G' (ν κ).1 = G (ν κ).1) := by
      intro κ o ho hκ
      have hfr := hnk.2 κ o ho
      refine ⟨hν κ hfr.1, fun κ' hκ' => hν κ' fun hm => hfr.2 κ' hm hκ', fun hl => ?_⟩
      have hlt := hB.lt κ o ho hl
      have hnot : ¬ blks ν Bi (ν κ).1 := by
        rintro ⟨κ₂, o₂, h₂, hl₂, hr₂⟩
        have hne : κ₂ ≠ κ := fun e => hκ (e ▸ hdom κ₂ o₂ h₂)
        exact hB.apart κ₂ κ o₂ o (hBi κ₂ o₂ h₂) ho hne hl₂ hl hr₂
      exact ⟨hk.heap _ hlt hnot, hk.fz _ hlt hnot⟩
    have hcase : ∀ κ o, (b.over dom Bo) κ = some o → (κ ∈ dom ∧ Bo κ = some o) ∨ (κ ∉ dom ∧ b κ = some o) := by
      intro κ o h
      by_cases hm : κ ∈ dom
      · left; exact ⟨hm, by simpa [BF.over, hm] using h⟩
      · right; exact ⟨hm, by simpa [BF.over, hm] using h⟩
    have hBlk : ∀ κ o, b κ = some o → κ ∉ dom → o.lives ν κ → ∀ κ₂ o₂, Bo κ₂ = some o₂ → o₂.lives ν' κ₂ → (ν κ).1 ≠ (ν' κ₂).1 := by
      intro κ o ho hκ hl κ₂ o₂ h₂ hl₂ e
      rcases hnew κ₂ o₂ h₂ hl₂ with ⟨κ₃, o₃, h₃, hl₃, hr₃⟩ | hge
      · have hne : κ₃ ≠ κ := fun e => hκ (e ▸ hdom κ₃ o₃ h₃)
        exact hB.apart κ₃ κ o₃ o (hBi κ₃ o₃ h₃) ho hne hl₃ hl (hr₃.trans e.symm)
      · have := hB.lt κ o ho hl; omega
    refine hK G' ν' _ w' hS' ?_ ?_ hkeep hν ?_
    · refine ⟨?_, ?_, ?_⟩
      · cases o.dst <;> simp [Act.put, hF.size]
      · cases o.dst <;> simp [Act.put, hF.defers]
      · intro s x hx
        rw [getD_put a o.dst v n hF.size s]
        cases hdst : o.dst with
        | none =>
          rw [hdst] at hx
          simp only [FF.put] at hx
          obtain ⟨h1, h2⟩ := hF.fact s x hx
          exact ⟨h1, by simpa using RepV.mono hk.le (fun κ hκ => hν κ fun hm => hnk.1 s x hx κ hm hκ) h2⟩
        | some d =>
          rw [hdst] at hx
          simp only [FF.put] at hx
          by_cases e : d = s
          · subst e
            simp only [if_true, Option.some.injEq] at hx
            subst hx
            exact ⟨hd d hdst, by simpa [hd d hdst] using hv⟩
          · simp only [e, if_false] at hx
            obtain ⟨h1, h2⟩ := hF.fact s x hx
            refine ⟨h1, ?_⟩
            rw [if_neg (by simp [e])]
            exact RepV.mono hk.le (fun κ hκ => hν κ fun hm => hnk.1 s x hx κ hm hκ) h2
    · refine ⟨?_, ?_, ?_, ?_⟩
      · intro κ o h
        rcases hcase κ o h with ⟨_, h⟩ | ⟨hm, h⟩
        · exact hB'.obj κ o h
        · obtain ⟨h1, h2, h3⟩ := hother κ o h hm
          exact (hB.obj κ o h).mono hk.le h1 h2 fun hl => (h3 hl).1
      · intro κ o h hfx hl
        rcases hcase κ o h with ⟨_, h⟩ | ⟨hm, h⟩
        · exact hB'.free κ o h hfx hl
        · obtain ⟨h1, h2, h3⟩ := hother κ o h hm
          have hl' := (AO.lives_same h1).1 hl
          rw [h1, (h3 hl').2]; exact hB.free κ o h hfx hl'
      · intro κ o h hl
        rcases hcase κ o h with ⟨_, h⟩ | ⟨hm, h⟩
        · exact hB'.lt κ o h hl
        · obtain ⟨h1, h2, h3⟩ := hother κ o h hm
          have hl' := (AO.lives_same h1).1 hl
          rw [h1]; exact Nat.lt_of_lt_of_le (hB.lt κ o h hl') hk.size
      · intro κ κ₂ o o₂ h h₂ hne hl hl₂
        rcases hcase κ o h with ⟨hm, h⟩ | ⟨hm, h⟩ <;> rcases hcase κ₂ o₂ h₂ with ⟨hm₂, h₂⟩ | ⟨hm₂, h₂⟩
        · exact hB'.apart κ κ₂ o o₂ h h₂ hne hl hl₂
        · obtain ⟨h1, _, _⟩ := hother κ₂ o₂ h₂ hm₂
          rw [h1]; exact fun e => hBlk κ₂ o₂ h₂ hm₂ ((AO.lives_same h1).1 hl₂) κ o h hl e.symm
        · obtain ⟨h1, _, _⟩ := hother κ o h hm
          rw [h1]; exact hBlk κ o h hm ((AO.lives_same h1).1 hl) κ₂ o₂ h₂ hl₂
        · obtain ⟨h1, _, _⟩ := hother κ o h hm
          obtain ⟨h1₂, _, _⟩ := hother κ₂ o₂ h₂ hm₂
          rw [h1, h1₂]
          exact hB.apart κ κ₂ o o₂ h h₂ hne ((AO.lives_same h1).1 hl) ((AO.lives_same h1₂).1 hl₂)
    · rintro r ⟨κ, o, h, hl, hr⟩
      rcases hcase κ o h with ⟨_, h⟩ | ⟨hm, h⟩
      · rcases hnew κ o h hl with h' | h'
        · left; rw [← hr]; exact hsub _ h'
        · right; omega
      · obtain ⟨h1, _, _⟩ := hother κ o h hm
        left; exact ⟨κ, o, h, (AO.lives_same h1).1 hl, by rw [← h1]; exact hr⟩
  -- the exits beyond the normal one are free
  unfold Oper.wp at h2 ⊢
  generalize (execOp a.eval o).run P w = r at h2
  cases r with
  | ok x w' =>
    cases x <;> simp only [Oper.upon] at h2 ⊢ <;> first
      | exact h2
      | exact h2.mono fun e w'' he => by
          cases e with
          | returned v => exact he
          | panicked c => exact he.elim
          | outgrown => obtain ⟨_, _, h⟩ := he; exact h.elim
  | halt x w' => cases x <;> simp only [Oper.upon] at h2

end Go.Abs
