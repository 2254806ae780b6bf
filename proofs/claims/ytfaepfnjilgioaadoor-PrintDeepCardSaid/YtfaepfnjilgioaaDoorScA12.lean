/-
  Rules: append, make, slice literals.
-/
import Derived.Test.YtfaepfnjilgioaaDoorScA11
set_option linter.all false
set_option linter.unusedSimpArgs false
set_option linter.unusedVariables false
namespace Go.Abs
open Go

theorem idx_split {k q n : Nat} (h : q < n * k) : q / k < n ∧ q % k < k ∧ q / k * k + q % k = q := by
  have hk : 0 < k := by
    rcases Nat.eq_zero_or_pos k with h0 | h0
    · subst h0; simp at h
    · exact h0
  refine ⟨?_, Nat.mod_lt _ hk, ?_⟩
  · exact (Nat.div_lt_iff_lt_mul hk).2 h
  · rw [Nat.mul_comm]; exact Nat.div_add_mod q k

/-- the cells of a row told element by element -/
def Row (G : Frz) (k : Nat) (es : List (List PC)) (us : List Value) : Prop :=
  us.length = es.length * k ∧ (∀ c ∈ es, c.length = k) ∧ ∀ (i j : Nat) (c : PC), (es[i]?).bind (·[j]?) = some c → ∃ u, us[i * k + j]? = some u ∧ RepP G c u

theorem Row.cell {G : Frz} {k : Nat} {es : List (List PC)} {us : List Value} (h : Row G k es us) : ∀ v ∈ us, isCell v = true := by
  intro v hv
  obtain ⟨q, hq, rfl⟩ := List.getElem_of_mem hv
  obtain ⟨h1, h2, h3⟩ := h
  obtain ⟨a, b, c⟩ := idx_split (by rw [← h1]; exact hq : q < es.length * k)
  have hek : (es[q / k]).length = k := h2 _ (List.getElem_mem _)
  obtain ⟨u, hu, hr⟩ := h3 (q / k) (q % k) (es[q / k][q % k]'(by omega)) (by simp [a, hek, b])
  rw [c] at hu
  rw [List.getElem?_eq_getElem hq] at hu
  simp only [Option.some.injEq] at hu
  rw [hu]; exact hr.cell

theorem Row.mono {G G' : Frz} (hG : G.le G') {k : Nat} {es : List (List PC)} {us : List Value} (h : Row G k es us) : Row G' k es us :=
  ⟨h.1, h.2.1, fun i j c hc => let ⟨u, h1, h2⟩ := h.2.2 i j c hc; ⟨u, h1, h2.mono hG⟩⟩

theorem Row.append {G : Frz} {k : Nat} {es fs : List (List PC)} {us vs : List Value} (h : Row G k es us) (h' : Row G k fs vs) : Row G k (es ++ fs) (us ++ vs) := by
  refine ⟨by rw [List.length_append, List.length_append, h.1, h'.1, Nat.add_mul], fun c hc => (List.mem_append.1 hc).elim (h.2.1 c) (h'.2.1 c), ?_⟩
  intro i j c hc
  by_cases hi : i < es.length
  · rw [List.getElem?_append_left hi] at hc
    obtain ⟨u, h1, h2⟩ := h.2.2 i j c hc
    exact ⟨u, by rw [List.getElem?_append_left (List.getElem?_eq_some_iff.1 h1).1]; exact h1, h2⟩
  · rw [List.getElem?_append_right (by omega)] at hc
    obtain ⟨u, h1, h2⟩ := h'.2.2 _ j c hc
    refine ⟨u, ?_, h2⟩
    have hle : es.length * k ≤ i * k := Nat.mul_le_mul_right k (by omega)
    rw [List.getElem?_append_right (by rw [h.1]; omega), h.1]
    have : i * k + j - es.length * k = (i - es.length) * k + j := by rw [Nat.sub_mul]; omega
    rw [this]; exact h1

theorem Row.nil (G : Frz) (k : Nat) : Row G k [] [] := ⟨by simp, by simp, by simp⟩

/-- a frozen slice's cells -/
theorem rep_sl_row {G : Frz} {k : Nat} {es : List (List PC)} {v : Value} (h : RepP G (.sl k es) v) :
    ∃ a cap, v = .slice a es.length cap ∧ es.length ≤ cap ∧ (∀ c ∈ es, c.length = k) ∧
      (es = [] ∨ ∃ blk off us, a = some ⟨blk, off, none⟩ ∧ Row G k es us ∧ ∀ (j : Nat) (u : Value), us[j]? = some u → (G blk)[off + j]? = some u) := by
  cases h with
  | sl blk off u hc hk ha hg hr =>
    refine ⟨_, _, rfl, hc, hk, ?_⟩
    by_cases he : es = []
    · exact Or.inl he
    · refine Or.inr ⟨blk, off, (List.range (es.length * k)).map u, ha he, ⟨by simp, hk, ?_⟩, ?_⟩
      · intro i j c hc
        refine ⟨u (i * k + j), ?_, hr i j c hc⟩
        cases h : es[i]? with
        | none => rw [h] at hc; simp at hc
        | some e =>
          rw [h] at hc
          simp only [Option.bind_some] at hc
          have hi := (List.getElem?_eq_some_iff.1 h).1
          have hj : j < k := by rw [← hk e (List.mem_of_getElem? h)]; exact (List.getElem?_eq_some_iff.1 hc).1
          have hlt : i * k + j < es.length * k := by
            have : (i + 1) * k ≤ es.length * k := Nat.mul_le_mul_right k hi
            rw [Nat.add_mul] at this; omega
          simp [hlt]
      · intro j x hj
        rw [List.getElem?_map] at hj
        cases h : (List.range (es.length * k))[j]? with
        | none => rw [h] at hj; cases hj
        | some q =>
          rw [h] at hj
          have hq := List.getElem?_eq_some_iff.1 h
          obtain ⟨q1, q2⟩ := hq
          simp at q2; subst q2
          simp only [Option.map_some, Option.some.injEq] at hj; subst hj
          exact hg j (by simpa using q1)

section
variable {P : Program} {ops : Array Oper} {n : Nat} {os : List Oper} {F : Facts} {B : BL} {evs : List Ev} {K : FF → BF → List Ev → Prop}
variable {d t u ty : Nat} {x y z : Operand} {pos : String} {aft : Array Edge} {g : Option (Nat × Bool)}

theorem run_firstCells_sl {w : World} {blk off size m cap : Nat} {us : List Value} (hl : us.length = m * size) (h : ∀ (j : Nat) (u : Value), us[j]? = some u → w.cell? ⟨blk, off + j, none⟩ = some u) :
    (Builtin.firstCells size m (.slice (some ⟨blk, off, none⟩) m cap)).run P w = .ok us.toArray w := by
  simp only [Builtin.firstCells]
  rw [← hl]; exact run_loadCells h
theorem run_firstCells_0 {w : World} {a : Option Addr} {size cap : Nat} : (Builtin.firstCells size 0 (.slice a 0 cap)).run P w = .ok #[] w := by
  cases a <;> simp [Builtin.firstCells, loadCells, loadCellsFrom, Pure.pure]

/-- what a plain slice offers to an append -/
theorem firstCells_of {G : Frz} {w : World} {k : Nat} {es : List (List PC)} {v : Value} (hS : Sat G w) (h : RepP G (.sl k es) v) :
    ∃ a cap us, v = .slice a es.length cap ∧ Row G k es us ∧ (Builtin.firstCells k es.length v).run P w = .ok us.toArray w := by
  obtain ⟨a, cap, rfl, _, hk, hc⟩ := rep_sl_row h
  rcases hc with rfl | ⟨blk, off, us, rfl, hrow, hg⟩
  · exact ⟨a, cap, [], rfl, Row.nil G k, run_firstCells_0⟩
  · exact ⟨_, cap, us, rfl, hrow, run_firstCells_sl hrow.1 fun j u hj => hS.cell (hg j u hj)⟩

/-- the world behind a growing append -/
def growW (w : World) (o : Obj) : World := { w with heap := w.heap.push o, drawn := w.drawn + 1 }

theorem run_append {w : World} {t t2 ty e e2 k bt : Nat} {i : TypeInfo} {zv : Value} (ht : P.underlying t = some (.slice e)) (ht2 : P.underlying t2 = some (.slice e2)) (hs : ∀ w, (sizeOf e).run P w = .ok k w)
    (hi : ∀ w, (typeInfo e).run P w = .ok i w) (hbt : i.bytes = bt) (hz : ∀ w, (zeroValue e).run P w = .ok zv w)
    (hzs : zv.cells.size = k) {a : Option Addr} {m cap : Nat} {b : Option Addr} {n2 cap2 : Nat} {news : List Value}
    (hnew : (Builtin.firstCells k n2 (.slice b n2 cap2)).run P w = .ok news.toArray w) :
    (m + n2 ≤ cap → ∀ w', (∀ ad, a = some ad → (storeCells (ad.add (m * k)) news).run P w = .ok () w') → (a = none → w' = w) →
      (Builtin.append_ #[t, t2] ty #[.slice a m cap, .slice b n2 cap2]).run P w = .ok (.slice a (m + n2) cap) w') ∧
    (cap < m + n2 → (m + n2) * bt ≤ 140737488355328 → ((m + n2 : Nat) : Int) ≤ IntKind.i64.max → ∀ old, (Builtin.firstCells k m (.slice a m cap)).run P { w with drawn := w.drawn + 1 } = .ok old { w with drawn := w.drawn + 1 } →
      (Builtin.firstCells k n2 (.slice b n2 cap2)).run P { w with drawn := w.drawn + 1 } = .ok news.toArray { w with drawn := w.drawn + 1 } →
      ∃ nc rest, m + n2 ≤ nc ∧ rest.size = (nc - (m + n2)) * k ∧
        (Builtin.append_ #[t, t2] ty #[.slice a m cap, .slice b n2 cap2]).run P w = .ok (.slice (some ⟨w.heap.size, 0, none⟩) (m + n2) nc) (growW w (.cells (old ++ news.toArray ++ rest) e))) := by
  subst hbt
  constructor
  · intro hroom w' hst hno
    cases a with
    | none =>
      have := hno rfl; subst this
      simp [Builtin.append_, run_underlying ht, run_underlying ht2, hs, Builtin.lenOf, hroom, hnew]
    | some ad =>
      have := hst ad rfl
      simp [Builtin.append_, run_underlying ht, run_underlying ht2, hs, Builtin.lenOf, hroom, hnew, this]
  · intro hroom hb h63 old hold hnew'
    have hfit := growslice_fits (need := m + n2) (old := cap) (bytes := i.bytes) hroom hb
    have h1 : ¬ (m + n2 ≤ cap) := by omega
    have h2 : ¬ (281474976710656 < Builtin.nextslicecap (m + n2) cap * i.bytes) := by omega
    have h4' : ¬ (IntKind.i64.max < (m : Int) + (n2 : Int)) := by
      have : ((m + n2 : Nat) : Int) = (m : Int) + (n2 : Int) := by omega
      omega
    have h4'' : ¬ (9223372036854775807 < (m : Int) + (n2 : Int)) := h4'
    refine ⟨grownCap w (m + n2) cap e, Builtin.zeroCells zv.cells (grownCap w (m + n2) cap e - (m + n2)), grownCap_ge _ _ _ _, by simp [size_zeroCells, hzs], ?_⟩
    have hdrew : ({ w with drawn := w.drawn + 1 } : World) = w.drew := rfl
    rw [hdrew] at hold hnew'
    simp [Builtin.append_, run_underlying ht, run_underlying ht2, hs, hi, hz, Builtin.lenOf, h1, h2, h4'', Question.forced, hold, hnew', newRow, grownCap]
    rfl

end
end Go.Abs
