/-
  Regions: whatever order the edges allow comes to the state of the text's order.
-/
import Derived.Test.YtfaepfnjilgioaaDoorScA3
set_option linter.all false
set_option linter.unusedSimpArgs false
set_option linter.unusedVariables false
namespace Go.Abs
open Go

section
variable {P : Program} {ops : Array Oper} {n : Nat} {evs : List Ev} {f₀ : FF} {b₀ : BF} {pre : Nat → Nat → Prop}

/-- what place j reads: an event's own; behind the last one all -/
def rdS (ops : Array Oper) (evs : List Ev) (j s : Nat) : Prop := match evs[j]? with
  | some e => s ∈ e.rs ops
  | none => True
def rdK (evs : List Ev) (j : Nat) (κ : Key) : Prop := match evs[j]? with
  | some e => κ ∈ e.rk
  | none => True

/-- a region's events, told: each fits; what meets another one is ordered; new keys are new -/
structure Told (P : Program) (ops : Array Oper) (n : Nat) (evs : List Ev) (f₀ : FF) (b₀ : BF) (pre : Nat → Nat → Prop) : Prop where
  eq : ops.toList = evs.map (·.o)
  fits : ∀ (i : Nat) (e : Ev), evs[i]? = some e → e.Fits P ops n (fAt f₀ evs i) (bAt b₀ evs i)
  slots : ∀ (i j : Nat) (x y : Ev), i < j → evs[i]? = some x → evs[j]? = some y → ∀ s, (s ∈ x.ws ∧ (s ∈ y.rs ops ∨ s ∈ y.ws) ∨ s ∈ x.rs ops ∧ s ∈ y.ws) → pre i j
  keys : ∀ (i j : Nat) (x y : Ev), i < j → evs[i]? = some x → evs[j]? = some y → ∀ κ, (κ ∈ x.wk ∧ (κ ∈ y.rk ∨ κ ∈ y.wk) ∨ κ ∈ x.rk ∧ κ ∈ y.wk) → pre i j
  new₀ : ∀ e ∈ evs, Fresh e.nw f₀ b₀
  new : ∀ (i k : Nat) (x y : Ev), i ≠ k → evs[i]? = some x → evs[k]? = some y → ∀ κ, κ ∈ x.nw → κ ∈ y.mk_ → pre i k

/-- the state of a run that has done D -/
structure Inv (ops : Array Oper) (evs : List Ev) (f₀ : FF) (b₀ : BF) (D : Nat → Prop) (f : FF) (b : BF) : Prop where
  slot : ∀ j, j ≤ evs.length → ¬ D j → ∀ s, rdS ops evs j s → (∀ m (x : Ev), m < j → evs[m]? = some x → s ∈ x.ws → D m) → f s = fAt f₀ evs j s
  key : ∀ j, j ≤ evs.length → ¬ D j → ∀ κ, rdK evs j κ → (∀ m (x : Ev), m < j → evs[m]? = some x → κ ∈ x.wk → D m) → b κ = bAt b₀ evs j κ
  fFrom : ∀ s v, f s = some v → f₀ s = some v ∨ ∃ (k : Nat) (x : Ev), D k ∧ evs[k]? = some x ∧ ∀ κ ∈ v.keys, κ ∈ x.mk_
  bFrom : ∀ κ o, b κ = some o → b₀ κ = some o ∨ ∃ (k : Nat) (x : Ev), D k ∧ evs[k]? = some x ∧ κ ∈ x.mk_ ∧ ∀ κ' ∈ o.keys, κ' ∈ x.mk_

theorem fAt_last (s : Nat) : ∀ (es : List Ev) (f : FF) (j i : Nat) (e : Ev), i < j → j ≤ es.length → es[i]? = some e → s ∈ e.ws →
    (∀ (m : Nat) (x : Ev), i < m → m < j → es[m]? = some x → s ∉ x.ws) → fAt f es j s = some (if e.skip then .any else e.out) := by
  intro es f j
  induction j with
  | zero => intro i e h; omega
  | succ j ih =>
    intro i e hij hj hi hs hno
    obtain ⟨x, hx⟩ : ∃ x, es[j]? = some x := ⟨es[j], List.getElem?_eq_getElem (by omega)⟩
    rw [fAt_succ es f j x hx]
    by_cases hji : j = i
    · subst hji
      rw [hi] at hx; cases hx
      simp only [Ev.ws, Option.mem_toList] at hs
      simp [Ev.f, FF.put, hs]
    · have hns := hno j x (by omega) (by omega) hx
      have : x.f (fAt f es j) s = fAt f es j s := by
        simp only [Ev.ws, Option.mem_toList] at hns
        unfold Ev.f FF.put
        cases hd : x.o.dst with
        | none => rfl
        | some d => simp only; rw [if_neg (fun h => hns (by rw [hd, h]))]
      rw [this]
      exact ih i e (by omega) (by omega) hi hs fun m y h1 h2 => hno m y h1 (by omega)

theorem fAt_same (s : Nat) : ∀ (es : List Ev) (f : FF) (j i : Nat), i ≤ j → j ≤ es.length →
    (∀ (m : Nat) (x : Ev), i ≤ m → m < j → es[m]? = some x → s ∉ x.ws) → fAt f es j s = fAt f es i s := by
  intro es f j
  induction j with
  | zero => intro i h; have : i = 0 := by omega
            subst this; intros; rfl
  | succ j ih =>
    intro i hij hj hno
    by_cases e : i = j + 1
    · subst e; rfl
    obtain ⟨x, hx⟩ : ∃ x, es[j]? = some x := ⟨es[j], List.getElem?_eq_getElem (by omega)⟩
    rw [fAt_succ es f j x hx]
    have hns := hno j x (by omega) (by omega) hx
    have : x.f (fAt f es j) s = fAt f es j s := by
      simp only [Ev.ws, Option.mem_toList] at hns
      unfold Ev.f FF.put
      cases hd : x.o.dst with
      | none => rfl
      | some d => simp only; rw [if_neg (fun h => hns (by rw [hd, h]))]
    rw [this]
    exact ih i (by omega) (by omega) fun m y h1 h2 => hno m y h1 (by omega)

/-- what an event does to an object, by its footprint -/
theorem Ev.b_at {e : Ev} {f : FF} {b₁ b : BF} (he : e.Fits P ops n f b₁) (hb : ∀ κ ∈ e.rk, b κ = b₁ κ) (κ : Key) :
    e.b b κ = if κ ∈ e.wk then e.Bo.fn κ else b κ := by
  unfold Ev.b Ev.wk
  cases hs : e.skip with
  | true => simp
  | false =>
    simp only [Bool.false_or, Bool.false_eq_true, if_false, BF.over]
    cases hr : e.ro with
    | false => simp
    | true =>
      simp only [if_true, List.not_mem_nil, if_false]
      split
      · rename_i hm
        rw [he.ro hs hr κ hm, hb κ (by simp [Ev.rk, hs, hm])]
      · rfl

theorem bAt_last (ht : Told P ops n evs f₀ b₀ pre) (κ : Key) : ∀ (j i : Nat) (e : Ev), i < j → j ≤ evs.length → evs[i]? = some e → κ ∈ e.wk →
    (∀ (m : Nat) (x : Ev), i < m → m < j → evs[m]? = some x → κ ∉ x.wk) → bAt b₀ evs j κ = e.Bo.fn κ := by
  intro j
  induction j with
  | zero => intro i e h; omega
  | succ j ih =>
    intro i e hij hj hi hs hno
    obtain ⟨x, hx⟩ : ∃ x, evs[j]? = some x := ⟨evs[j], List.getElem?_eq_getElem (by omega)⟩
    rw [bAt_succ evs b₀ j x hx, Ev.b_at (ht.fits j x hx) (fun _ _ => rfl)]
    by_cases hji : j = i
    · subst hji
      rw [hi] at hx; cases hx
      rw [if_pos hs]
    · rw [if_neg (hno j x (by omega) (by omega) hx)]
      exact ih i e (by omega) (by omega) hi hs fun m y h1 h2 => hno m y h1 (by omega)

theorem bAt_same (ht : Told P ops n evs f₀ b₀ pre) (κ : Key) : ∀ (j i : Nat), i ≤ j → j ≤ evs.length →
    (∀ (m : Nat) (x : Ev), i ≤ m → m < j → evs[m]? = some x → κ ∉ x.wk) → bAt b₀ evs j κ = bAt b₀ evs i κ := by
  intro j
  induction j with
  | zero => intro i h; have : i = 0 := by omega
            subst this; intros; rfl
  | succ j ih =>
    intro i hij hj hno
    by_cases e : i = j + 1
    · subst e; rfl
    obtain ⟨x, hx⟩ : ∃ x, evs[j]? = some x := ⟨evs[j], List.getElem?_eq_getElem (by omega)⟩
    rw [bAt_succ evs b₀ j x hx, Ev.b_at (ht.fits j x hx) (fun _ _ => rfl), if_neg (hno j x (by omega) (by omega) hx)]
    exact ih i (by omega) (by omega) fun m y h1 h2 => hno m y h1 (by omega)

/-- the last place ahead of j with a property -/
theorem last_of (p : Nat → Prop) : ∀ j, (∀ m, m < j → ¬ p m) ∨ ∃ i, i < j ∧ p i ∧ ∀ m, i < m → m < j → ¬ p m := by
  intro j
  induction j with
  | zero => left; intro m h; omega
  | succ j ih =>
    by_cases hp : p j
    · right; exact ⟨j, by omega, hp, fun m h1 h2 => by omega⟩
    · rcases ih with h | ⟨i, h1, h2, h3⟩
      · left; intro m hm; by_cases e : m = j
        · subst e; exact hp
        · exact h m (by omega)
      · right; exact ⟨i, by omega, h2, fun m h4 h5 => by
          by_cases e : m = j
          · subst e; exact hp
          · exact h3 m h4 (by omega)⟩

variable {D : Nat → Prop} {f : FF} {b : BF}

theorem Inv.begin (ht : Told P ops n evs f₀ b₀ pre) : Inv ops evs f₀ b₀ (fun _ => False) f₀ b₀ where
  slot j hj _ s _ h := (fAt_same s evs f₀ j 0 (Nat.zero_le _) hj fun m x _ hm hx hs => h m x hm hx hs).symm ▸ (by cases evs <;> rfl)
  key j hj _ κ _ h := (bAt_same ht κ j 0 (Nat.zero_le _) hj fun m x _ hm hx hs => h m x hm hx hs).symm ▸ (by cases evs <;> rfl)
  fFrom s v h := Or.inl h
  bFrom κ o h := Or.inl h

theorem Inv.ready (ht : Told P ops n evs f₀ b₀ pre) (hI : Inv ops evs f₀ b₀ D f b) {i : Nat} {e : Ev} (he : evs[i]? = some e) (hi : ¬ D i)
    (hpre : ∀ k, pre k i → D k) (hcl : ∀ k m, pre k m → D m → D k) :
    (∀ s ∈ e.rs ops, f s = fAt f₀ evs i s) ∧ (∀ κ ∈ e.rk, b κ = bAt b₀ evs i κ) ∧ Fresh e.nw f b := by
  have hlen : i < evs.length := (List.getElem?_eq_some_iff.1 he).1
  refine ⟨fun s hs => hI.slot i (by omega) hi s (by simp [rdS, he, hs]) fun m x hm hx hw => hpre m (ht.slots m i x e hm hx he s (Or.inl ⟨hw, Or.inl hs⟩)),
    fun κ hκ => hI.key i (by omega) hi κ (by simp [rdK, he, hκ]) fun m x hm hx hw => hpre m (ht.keys m i x e hm hx he κ (Or.inl ⟨hw, Or.inl hκ⟩)), ?_, ?_⟩
  · intro s v hv κ hκ hm
    rcases hI.fFrom s v hv with h | ⟨k, x, hD, hx, hk⟩
    · exact (ht.new₀ e (List.mem_of_getElem? he)).1 s v h κ hκ hm
    · have hne : i ≠ k := fun h => hi (h ▸ hD)
      exact hi (hcl i k (ht.new i k e x hne he hx κ hκ (hk κ hm)) hD)
  · intro κ o ho
    rcases hI.bFrom κ o ho with h | ⟨k, x, hD, hx, hκ, hk⟩
    · exact (ht.new₀ e (List.mem_of_getElem? he)).2 κ o h
    · have hne : i ≠ k := fun h => hi (h ▸ hD)
      refine ⟨fun hm => hi (hcl i k (ht.new i k e x hne he hx κ hm hκ) hD), fun κ' hκ' hm => ?_⟩
      exact hi (hcl i k (ht.new i k e x hne he hx κ' hκ' (hk κ' hm)) hD)

theorem keys_of_fn {B : BL} {κ : Key} {o : AO} (h : B.fn κ = some o) : κ ∈ B.dom ∧ ∀ κ' ∈ o.keys, κ' ∈ B.keys := by
  unfold BL.fn at h
  induction B with
  | nil => simp [look] at h
  | cons p B ih =>
    obtain ⟨x, y⟩ := p
    simp only [look] at h
    split at h
    · rename_i e; subst e
      simp only [Option.join_some] at h
      subst h
      exact ⟨by simp [BL.dom], fun κ' hκ' => by simp [BL.keys, hκ']⟩
    · obtain ⟨h1, h2⟩ := ih h
      exact ⟨by simp [BL.dom] at h1 ⊢; exact Or.inr h1, fun κ' hκ' => by
        have := h2 κ' hκ'
        simp only [BL.keys, List.flatMap_cons, List.mem_append] at this ⊢
        exact Or.inr this⟩

theorem Inv.step (ht : Told P ops n evs f₀ b₀ pre) (hI : Inv ops evs f₀ b₀ D f b) {i : Nat} {e : Ev} (he : evs[i]? = some e) (hi : ¬ D i)
    (hpre : ∀ k, pre k i → D k) (hcl : ∀ k m, pre k m → D m → D k) : Inv ops evs f₀ b₀ (fun k => D k ∨ k = i) (e.f f) (e.b b) := by
  have hlen : i < evs.length := (List.getElem?_eq_some_iff.1 he).1
  obtain ⟨hrs, hrk, _⟩ := hI.ready ht he hi hpre hcl
  refine ⟨?_, ?_, ?_, ?_⟩
  · intro j hj hDj s hs hw
    have hji : j ≠ i := fun h => hDj (Or.inr h)
    have hDj' : ¬ D j := fun h => hDj (Or.inl h)
    by_cases hsi : s ∈ e.ws
    · -- it writes s
      have hij : i < j := by
        rcases Nat.lt_or_ge i j with h | h
        · exact h
        · exfalso
          have hlt : j < i := by omega
          obtain ⟨y, hy⟩ : ∃ y, evs[j]? = some y := ⟨evs[j], List.getElem?_eq_getElem (by omega)⟩
          have hsy : s ∈ y.rs ops := by simpa [rdS, hy] using hs
          exact hDj' (hpre j (ht.slots j i y e hlt hy he s (Or.inr ⟨hsy, hsi⟩)))
      rw [fAt_last s evs f₀ j i e hij hj he hsi ?_]
      · simp only [Ev.ws, Option.mem_toList] at hsi
        simp [Ev.f, FF.put, hsi]
      · intro m x h1 h2 hx hsx
        rcases hw m x h2 hx hsx with h | h
        · exact hi (hcl i m (ht.slots i m e x h1 he hx s (Or.inl ⟨hsi, Or.inr hsx⟩)) h)
        · omega
    · have : e.f f s = f s := by
        simp only [Ev.ws, Option.mem_toList] at hsi
        unfold Ev.f FF.put
        cases hd : e.o.dst with
        | none => rfl
        | some d => simp only; rw [if_neg (fun h => hsi (by rw [hd, h]))]
      rw [this]
      exact hI.slot j hj hDj' s hs fun m x hm hx hsx => (hw m x hm hx hsx).resolve_right fun h => by subst h; rw [he] at hx; cases hx; exact hsi hsx
  · intro j hj hDj κ hκ hw
    have hji : j ≠ i := fun h => hDj (Or.inr h)
    have hDj' : ¬ D j := fun h => hDj (Or.inl h)
    rw [Ev.b_at (ht.fits i e he) hrk]
    by_cases hsi : κ ∈ e.wk
    · rw [if_pos hsi]
      have hij : i < j := by
        rcases Nat.lt_or_ge i j with h | h
        · exact h
        · exfalso
          have hlt : j < i := by omega
          obtain ⟨y, hy⟩ : ∃ y, evs[j]? = some y := ⟨evs[j], List.getElem?_eq_getElem (by omega)⟩
          have hsy : κ ∈ y.rk := by simpa [rdK, hy] using hκ
          exact hDj' (hpre j (ht.keys j i y e hlt hy he κ (Or.inr ⟨hsy, hsi⟩)))
      rw [bAt_last ht κ j i e hij hj he hsi ?_]
      intro m x h1 h2 hx hsx
      rcases hw m x h2 hx hsx with h | h
      · exact hi (hcl i m (ht.keys i m e x h1 he hx κ (Or.inl ⟨hsi, Or.inr hsx⟩)) h)
      · omega
    · rw [if_neg hsi]
      exact hI.key j hj hDj' κ hκ fun m x hm hx hsx => (hw m x hm hx hsx).resolve_right fun h => by subst h; rw [he] at hx; cases hx; exact hsi hsx
  · intro s v hv
    have : e.f f s = some v := hv
    unfold Ev.f FF.put at this
    cases hd : e.o.dst with
    | none =>
      rw [hd] at this
      rcases hI.fFrom s v this with h | ⟨k, x, h1, h2, h3⟩
      · exact Or.inl h
      · exact Or.inr ⟨k, x, Or.inl h1, h2, h3⟩
    | some d =>
      rw [hd] at this
      simp only at this
      split at this
      · right
        refine ⟨i, e, Or.inr rfl, he, fun κ hκ => ?_⟩
        simp only [Option.some.injEq] at this
        cases hs : e.skip with
        | true => rw [hs] at this; simp only [if_true] at this; subst this; simp [AV.keys] at hκ
        | false => rw [hs] at this; simp only [Bool.false_eq_true, if_false] at this; subst this; simp [Ev.mk_, hs, hκ]
      · rcases hI.fFrom s v this with h | ⟨k, x, h1, h2, h3⟩
        · exact Or.inl h
        · exact Or.inr ⟨k, x, Or.inl h1, h2, h3⟩
  · intro κ o ho
    unfold Ev.b at ho
    cases hs : e.skip with
    | true =>
      rw [hs] at ho
      simp only [if_true] at ho
      rcases hI.bFrom κ o ho with h | ⟨k, x, h1, h2, h3⟩
      · exact Or.inl h
      · exact Or.inr ⟨k, x, Or.inl h1, h2, h3⟩
    | false =>
      rw [hs] at ho
      simp only [Bool.false_eq_true, if_false, BF.over] at ho
      split at ho
      · right
        obtain ⟨h1, h2⟩ := keys_of_fn ho
        exact ⟨i, e, Or.inr rfl, he, by simp [Ev.mk_, hs, h1], fun κ' hκ' => by simp [Ev.mk_, hs, h2 κ' hκ']⟩
      · rcases hI.bFrom κ o ho with h | ⟨k, x, h1, h2, h3⟩
        · exact Or.inl h
        · exact Or.inr ⟨k, x, Or.inl h1, h2, h3⟩

theorem Inv.ended (_ht : Told P ops n evs f₀ b₀ pre) (hI : Inv ops evs f₀ b₀ D f b) (hall : ∀ i, i < evs.length → D i) (hno : ¬ D evs.length) :
    f = fAt f₀ evs evs.length ∧ b = bAt b₀ evs evs.length :=
  ⟨funext fun s => hI.slot evs.length (Nat.le_refl _) hno s (by simp [rdS]) fun m _ hm _ _ => hall m hm,
   funext fun κ => hI.key evs.length (Nat.le_refl _) hno κ (by simp [rdK]) fun m _ hm _ _ => hall m hm⟩

end
end Go.Abs
