/-
  Regions: a run of operations in the order of the text, and why every order that the edges allow comes to the same.
-/
import Derived.Test.YtfaepfnjilgioaaDoorScA2
import Derived.Orders
set_option linter.all false
set_option linter.unusedSimpArgs false
set_option linter.unusedVariables false
namespace Go.Abs
open Go

/-- one operation of a region, as it was told -/
structure Ev where
  o : Oper
  skip : Bool
  Fi : Facts
  Bi : BL
  out : AV
  Bo : BL
  nk : List Key
  ro : Bool          -- no object changes

/-- the slot of a guard -/
def gslot (ops : Array Oper) (o : Oper) : Option Nat := match o.guard with
  | some (j, _) => (ops[j]?).bind (·.dst)
  | none => none

def Facts.slots (F : Facts) : List Nat := F.map (·.1)
def BL.dom (B : BL) : List Key := B.map (·.1)
def Facts.keys (F : Facts) : List Key := F.flatMap (·.2.keys)
def BL.keys (B : BL) : List Key := B.flatMap fun x => match x.2 with | some o => o.keys | none => []

def Ev.rs (ops : Array Oper) (e : Ev) : List Nat := (gslot ops e.o).toList ++ (if e.skip then [] else e.Fi.slots)
def Ev.ws (e : Ev) : List Nat := e.o.dst.toList
def Ev.rk (e : Ev) : List Key := if e.skip then [] else e.Bi.dom ++ e.Bo.dom
def Ev.wk (e : Ev) : List Key := if e.skip || e.ro then [] else e.Bo.dom
def Ev.mk_ (e : Ev) : List Key := if e.skip then [] else e.Bo.dom ++ e.out.keys ++ e.Bo.keys
def Ev.nw (e : Ev) : List Key := if e.skip then [] else e.nk

/-- the state behind an event -/
def Ev.f (e : Ev) (f : FF) : FF := f.put e.o.dst (if e.skip then .any else e.out)
def Ev.b (e : Ev) (b : BF) : BF := if e.skip then b else b.over e.Bo.dom e.Bo.fn

/-- an event fits the state in which it stands -/
structure Ev.Fits (P : Program) (ops : Array Oper) (n : Nat) (e : Ev) (f : FF) (b : BF) : Prop where
  guard : match e.o.guard with
    | none => e.skip = false
    | some (j, want) => ∃ d c, (ops[j]?).bind (·.dst) = some d ∧ f d = some (.s (.one (.p (.v (.bool c))))) ∧ e.skip = (c != want)
  dst : ∀ d, e.o.dst = some d → d < n
  tri : e.skip = false → Tri P e.o e.Fi.fn e.Bi.fn e.out e.Bo.fn e.nk
  facts : e.skip = false → ∀ s v, e.Fi.fn s = some v → f s = some v
  objs : e.skip = false → ∀ κ o, e.Bi.fn κ = some o → b κ = some o
  dom : e.skip = false → ∀ κ o, e.Bi.fn κ = some o → κ ∈ e.Bo.dom
  ro : e.skip = false → e.ro = true → ∀ κ, κ ∈ e.Bo.dom → e.Bo.fn κ = b κ

/-- the states along a row of events -/
def fAt (f : FF) : List Ev → Nat → FF
  | _, 0 => f
  | [], _ + 1 => f
  | e :: es, n + 1 => fAt (e.f f) es n
def bAt (b : BF) : List Ev → Nat → BF
  | _, 0 => b
  | [], _ + 1 => b
  | e :: es, n + 1 => bAt (e.b b) es n

theorem fAt_succ (es : List Ev) : ∀ (f : FF) (i : Nat) (e : Ev), es[i]? = some e → fAt f es (i + 1) = e.f (fAt f es i) := by
  induction es with
  | nil => intro f i e h; simp at h
  | cons x es ih =>
    intro f i e h
    cases i with
    | zero => simp at h; subst h; simp [fAt]
    | succ i => simp only [fAt]; exact ih _ i e (by simpa using h)
theorem bAt_succ (es : List Ev) : ∀ (b : BF) (i : Nat) (e : Ev), es[i]? = some e → bAt b es (i + 1) = e.b (bAt b es i) := by
  induction es with
  | nil => intro b i e h; simp at h
  | cons x es ih =>
    intro b i e h
    cases i with
    | zero => simp at h; subst h; simp [bAt]
    | succ i => simp only [bAt]; exact ih _ i e (by simpa using h)

/-- One event performed: the machine's step, in a state that agrees with the event's own on what it reads. -/
theorem Ev.step {P : Program} {ops : Array Oper} {n : Nat} {e : Ev} {f₀ : FF} {b₀ : BF} (he : e.Fits P ops n f₀ b₀) {i : Nat} (hi : ops[i]? = some e.o)
    {Q : Exit → Act → World → Prop} {G : Frz} {ν : Pl} {f : FF} {b : BF} {a : Act} {w : World}
    (hS : Sat G w) (hF : Holds G ν n f a) (hB : SatB G ν w b)
    (hf : ∀ s ∈ e.rs ops, f s = f₀ s) (hb : ∀ κ ∈ e.rk, b κ = b₀ κ) (hnk : Fresh e.nw f b)
    (K : Act → World → Prop)
    (hK : ∀ G' ν' a' w', Sat G' w' → Holds G' ν' n (e.f f) a' → SatB G' ν' w' (e.b b) →
      Keep (blks ν b) G w G' w' → (∀ κ, κ ∉ e.nw → ν' κ = ν κ) → (∀ r, blks ν' (e.b b) r → blks ν b r ∨ w.heap.size ≤ r) → K a' w') :
    wpOp P ops Q i K a w := by
  unfold wpOp
  rw [hi]
  simp only
  have hg := he.guard
  have hwant : Region.wanted e.o (yielded ops a.tmps) = !e.skip := by
    unfold Region.wanted
    split at hg
    · rename_i h0; rw [h0, hg]; rfl
    · rename_i j want h0
      obtain ⟨d, c, hd, hfd, hs⟩ := hg
      rw [h0]
      have hmem : d ∈ e.rs ops := by simp [Ev.rs, gslot, h0, hd]
      have hfd' : f d = some (.s (.one (.p (.v (.bool c))))) := (hf d hmem).trans hfd
      obtain ⟨hlt, hr⟩ := hF.fact d _ hfd'
      have hv : a.tmps.getD d undef = .bool c := by
        generalize a.tmps.getD d undef = x at hr ⊢
        simp only [RepV, RepS, RepC] at hr
        cases hr; rfl
      have hq : a.tmps[d]? = some (.bool c) := by
        have hlt' : d < a.tmps.size := by rw [hF.size]; exact hlt
        simp only [Array.getD_eq_getD_getElem?] at hv
        rw [Array.getElem?_eq_getElem hlt'] at hv ⊢
        simpa using hv
      have hy : yielded ops a.tmps j = some c := by
        unfold yielded
        rw [hd]
        simp [hq]
      simp only [hs, hy]
      cases c <;> cases want <;> rfl
  cases hsk : e.skip with
  | true =>
    rw [hwant, hsk]
    simp only [Bool.not_true, Bool.false_eq_true, if_false]
    refine hK G ν _ w hS ?_ ?_ (Keep.refl _ _ _) (fun _ _ => rfl) ?_
    · refine ⟨?_, ?_, ?_⟩
      · cases e.o.dst <;> simp [Act.put, hF.size]
      · cases e.o.dst <;> simp [Act.put, hF.defers]
      · intro s x hx
        rw [getD_put a e.o.dst undef n hF.size s]
        simp only [Ev.f, hsk, if_true] at hx
        cases hdst : e.o.dst with
        | none =>
          rw [hdst] at hx
          simpa using hF.fact s x hx
        | some d =>
          rw [hdst] at hx
          simp only [FF.put] at hx
          by_cases hds : d = s
          · subst hds; simp at hx; subst hx; exact ⟨he.dst d hdst, trivial⟩
          · simp only [hds, if_false] at hx; rw [if_neg (by simp [hds])]; exact hF.fact s x hx
    · simpa [Ev.b, hsk] using hB
    · intro r hr; left; simpa [Ev.b, hsk] using hr
  | false =>
    rw [hwant, hsk]
    simp only [Bool.not_false, if_true]
    left
    have hF' : ∀ s v, e.Fi.fn s = some v → f s = some v := by
      intro s v h
      have hm : s ∈ e.rs ops := by
        simp only [Ev.rs, hsk, Bool.false_eq_true, if_false, List.mem_append]
        right
        clear hf hF hK he
        revert h
        unfold Facts.fn Facts.slots
        induction e.Fi with
        | nil => simp [look]
        | cons p l ih =>
          obtain ⟨x, y⟩ := p
          simp only [look, List.map_cons, List.mem_cons]
          split
          · rename_i h0; intro _; left; exact h0.symm
          · intro h; right; exact ih h
      rw [hf s hm]; exact he.facts hsk s v h
    have hB' : ∀ κ o, e.Bi.fn κ = some o → b κ = some o := by
      intro κ o h
      have hm : κ ∈ e.rk := by
        simp only [Ev.rk, hsk, Bool.false_eq_true, if_false, List.mem_append]
        exact Or.inr (he.dom hsk κ o h)
      rw [hb κ hm]; exact he.objs hsk κ o h
    have hnk' : Fresh e.nk f b := by simpa [Ev.nw, hsk] using hnk
    refine step_of_tri (he.tri hsk) hS hF hB hF' hB' (fun κ o h => he.dom hsk κ o h) hnk' he.dst K ?_
    intro G' ν' a' w' h1 h2 h3 h4 h5 h6
    refine hK G' ν' a' w' h1 (by simpa [Ev.f, hsk] using h2) (by simpa [Ev.b, hsk] using h3) h4 (by simpa [Ev.nw, hsk] using h5) (by simpa [Ev.b, hsk] using h6)

/-! ### what is kept from a region's begin on -/
structure Since (ν₀ : Pl) (b₀ : BF) (G₀ : Frz) (w₀ : World) (ν : Pl) (b : BF) (G : Frz) (w : World) (new : Key → Prop) : Prop where
  keep : Keep (blks ν₀ b₀) G₀ w₀ G w
  pl : ∀ κ, ¬ new κ → ν κ = ν₀ κ
  blk : ∀ r, blks ν b r → blks ν₀ b₀ r ∨ w₀.heap.size ≤ r

theorem Since.refl (ν : Pl) (b : BF) (G : Frz) (w : World) (new : Key → Prop) : Since ν b G w ν b G w new := ⟨Keep.refl _ _ _, fun _ _ => rfl, fun _ h => Or.inl h⟩
theorem Since.step {ν₀ : Pl} {b₀ : BF} {G₀ : Frz} {w₀ : World} {ν ν' : Pl} {b b' : BF} {G G' : Frz} {w w' : World} {new new' : Key → Prop}
    (h : Since ν₀ b₀ G₀ w₀ ν b G w new) (h' : Since ν b G w ν' b' G' w' new') (hn : ∀ κ, new' κ → new κ) : Since ν₀ b₀ G₀ w₀ ν' b' G' w' new where
  keep := h.keep.trans h'.keep fun r hr hb => (h.blk r hb).resolve_right (by omega)
  pl κ hκ := (h'.pl κ fun h => hκ (hn κ h)).trans (h.pl κ hκ)
  blk r hr := by
    rcases h'.blk r hr with h1 | h1
    · exact h.blk r h1
    · right; exact Nat.le_trans h.keep.size h1
theorem Since.mono {ν₀ : Pl} {b₀ : BF} {G₀ : Frz} {w₀ : World} {ν : Pl} {b : BF} {G : Frz} {w : World} {new new' : Key → Prop}
    (h : Since ν₀ b₀ G₀ w₀ ν b G w new) (hn : ∀ κ, new κ → new' κ) : Since ν₀ b₀ G₀ w₀ ν b G w new' := ⟨h.keep, fun κ hκ => h.pl κ fun x => hκ (hn κ x), h.blk⟩

end Go.Abs
