/-
  Steps of the reading alone: less is known, rows are frozen, keys get other names, a slice that is nil is an owned row of none; a state is told anew.
-/
import Derived.Test.YtfaepfnjilgioaaDoorScA19
set_option linter.all false
set_option linter.unusedSimpArgs false
set_option linter.unusedVariables false
namespace Go.Abs
open Go

/-- the same state of the machine, read otherwise -/
def Gh (f : FF) (b : BF) (f' : FF) (b' : BF) : Prop :=
  ∀ n G ν a w, Fit n f b G ν a w → ∃ G' ν', Fit n f' b' G' ν' a w ∧ Since ν b G w ν' b' G' w own

theorem J.gh {P : Program} {n : Nat} {c : Code} {Q : Exit → FF → BF → Prop} {f f' : FF} {b b' : BF} (hg : Gh f b f' b') (h : J P n c Q f' b') : J P n c Q f b := by
  intro G ν a w hf
  obtain ⟨G', ν', hf', hs'⟩ := hg n G ν a w hf
  refine Code.wp_mono ?_ (h G' ν' a w hf')
  rintro e a₂ w₂ ⟨G₂, ν₂, f₂, b₂, hq, hf₂, hs₂⟩
  exact ⟨G₂, ν₂, f₂, b₂, hq, hf₂, hs'.step hs₂ fun _ h => h⟩

/-- a step at the end of a piece of code -/
theorem J.post {P : Program} {n : Nat} {c : Code} {Q : Exit → FF → BF → Prop} {f : FF} {b : BF}
    (h : J P n c (fun e f b => ∃ f' b', Gh f b f' b' ∧ Q e f' b') f b) : J P n c Q f b := by
  intro G ν a w hf
  refine Code.wp_mono ?_ (h G ν a w hf)
  rintro e a₂ w₂ ⟨G₂, ν₂, f₂, b₂, ⟨f', b', hg, hq⟩, hf₂, hs₂⟩
  obtain ⟨G', ν', hf', hs'⟩ := hg n G₂ ν₂ a₂ w₂ hf₂
  exact ⟨G', ν', f', b', hq, hf', hs₂.step hs' fun _ h => h⟩

/-- what a step does: φ: rows that are frozen; nils: keys of rows of none; s: new keys' old names -/
structure Step where
  φ : List (Key × Nat × List (List PC))
  nils : List Key
  σ : List (Key × Key)

def Step.nil (S : Step) (κ : Key) : Bool := S.nils.contains κ && Nat.blt κ 1000

def PC.cv (c c' : PC) : Prop := c = c' ∨ (c = .v (.slice none 0 0) ∧ ∃ k, c' = .sl k [])
def AC.cv (S : Step) (c c' : AC) : Prop :=
  (c = c'.ren (rn S.σ) ∧ c'.keys.all (fun κ => !S.nil κ) = true) ∨ (∃ p p', c = .p p ∧ c' = .p p' ∧ PC.cv p p') ∨
  (∃ κ m k es, c = .hs κ m ∧ c' = .p (.sl k es) ∧ look S.φ κ = some (k, es) ∧ m = es.length) ∨
  (∃ κ', c = .p (.v (.slice none 0 0)) ∧ c' = .hs κ' 0 ∧ S.nil κ' = true)
def SV.cv (S : Step) : SV → SV → Prop
  | .one c, .one c' => AC.cv S c c'
  | .agg cs, .agg cs' => All2 (AC.cv S) cs cs'
  | .agg cs, .pag cs' => All2 (AC.cv S) cs (cs'.map .p)
  | .pag cs, .pag cs' => cs = cs' ∨ All2 PC.cv cs cs'
  | .pag cs, .agg cs' => All2 (AC.cv S) (cs.map .p) cs'
  | _, _ => False
def AV.cv (S : Step) : AV → AV → Prop
  | _, .any => True
  | .s x, .s x' => SV.cv S x x'
  | .tup xs, .tup xs' => All2 (SV.cv S) xs xs'
  | _, _ => False

/-- the places behind a step -/
def Step.pl (S : Step) (ν : Pl) : Pl := fun κ => if S.nil κ then (0, 0) else if κ < 1000 then ν (rn S.σ κ) else ν κ

/-- the frozen rows behind a step are frozen -/
def Step.frozen (S : Step) (G : Frz) (ν : Pl) : Prop := ∀ κ k es, look S.φ κ = some (k, es) → ∀ cap a, es.length ≤ cap → ((ν κ).2 ≠ 0 → a = some ⟨(ν κ).1, 0, none⟩) → es.length ≤ (ν κ).2 → RepP G (.sl k es) (.slice a es.length cap)

theorem PC.cv_rep {G : Frz} {c c' : PC} {v : Value} (h : PC.cv c c') (r : RepP G c v) : RepP G c' v := by
  rcases h with rfl | ⟨rfl, k, rfl⟩
  · exact r
  · cases r
    exact .sl 0 0 (fun _ => undef) (Nat.le_refl _) (by simp) (fun h => (h rfl).elim) (by simp) (by simp)

/-- a key keeps its name, or has one of this frame -/
def keyOk (S : Step) (κ : Key) : Prop := κ < 1000 ∨ rn S.σ κ = κ

theorem AC.cv_rep {S : Step} {G : Frz} {ν : Pl} {c c' : AC} {v : Value} (hfz : S.frozen G ν) (hk : ∀ κ ∈ c'.keys, keyOk S κ) (h : AC.cv S c c') (r : RepC G ν c v) : RepC G (S.pl ν) c' v := by
  rcases h with ⟨rfl, hn⟩ | ⟨p, p', rfl, rfl, h⟩ | ⟨κ, m, k, es, rfl, rfl, h1, rfl⟩ | ⟨κ', rfl, rfl, h1⟩
  · rw [repC_ren] at r
    refine RepC.mono G.le_refl (fun κ hκ => ?_) r
    have := List.all_eq_true.1 hn κ hκ
    simp only [Step.pl]
    rw [if_neg (by simpa using this)]
    rcases hk κ hκ with h | h
    · rw [if_pos h]
    · split
      · rfl
      · rw [h]
  · exact PC.cv_rep h r
  · obtain ⟨a, e, h2, h3⟩ := r
    subst e
    exact hfz κ k es h1 _ a h2 h3 h2
  · cases r
    refine ⟨none, ?_, ?_, ?_⟩
    · simp only [Step.pl, h1, if_true]
    · exact Nat.zero_le _
    · simp only [Step.pl, h1, if_true]; intro h; exact (h rfl).elim

theorem All2.cvC {S : Step} {G : Frz} {ν : Pl} (hfz : S.frozen G ν) : ∀ {cs cs' : List AC} {vs : List Value}, (∀ κ ∈ cs'.flatMap AC.keys, keyOk S κ) → All2 (AC.cv S) cs cs' → All2 (RepC G ν) cs vs → All2 (RepC G (S.pl ν)) cs' vs
  | [], [], [], _, _, _ => trivial
  | _ :: _, c' :: cs', _ :: _, hk, h, r => ⟨AC.cv_rep hfz (fun κ hκ => hk κ (by simp [hκ])) h.1 r.1, All2.cvC hfz (fun κ hκ => hk κ (by
      simp only [List.flatMap_cons, List.mem_append]; exact Or.inr hκ)) h.2 r.2⟩
  | [], [], _ :: _, _, _, r => r.elim
  | [], _ :: _, _, _, h, _ => h.elim
  | _ :: _, [], _, _, h, _ => h.elim
  | _ :: _, _ :: _, [], _, _, r => r.elim
theorem All2.cvP {G : Frz} : ∀ {cs cs' : List PC} {vs : List Value}, All2 PC.cv cs cs' → All2 (RepP G) cs vs → All2 (RepP G) cs' vs
  | [], [], [], _, _ => trivial
  | _ :: _, _ :: _, _ :: _, h, r => ⟨PC.cv_rep h.1 r.1, All2.cvP h.2 r.2⟩
  | [], [], _ :: _, _, r => r.elim
  | [], _ :: _, _, h, _ => h.elim
  | _ :: _, [], _, h, _ => h.elim
  | _ :: _, _ :: _, [], _, r => r.elim

theorem keys_map_p (cs : List PC) : (cs.map AC.p).flatMap AC.keys = [] := by
  induction cs with
  | nil => rfl
  | cons c cs ih => simp [AC.keys, ih]

theorem SV.cv_rep {S : Step} {G : Frz} {ν : Pl} {x x' : SV} {v : Value} (hfz : S.frozen G ν) (hk : ∀ κ ∈ x'.keys, keyOk S κ) (h : SV.cv S x x') (r : RepS G ν x v) : RepS G (S.pl ν) x' v := by
  cases x <;> cases x' <;> simp only [SV.cv] at h
  · exact AC.cv_rep hfz hk h r
  · obtain ⟨us, e, hu⟩ := r
    exact ⟨us, e, All2.cvC hfz hk h hu⟩
  · obtain ⟨us, e, hu⟩ := r
    exact ⟨us, e, (All2.cvC hfz (fun κ hκ => by rw [keys_map_p] at hκ; simp at hκ) h hu).unmap_p⟩
  · obtain ⟨us, e, hu⟩ := r
    exact ⟨us, e, All2.cvC hfz hk h hu.map_p⟩
  · obtain ⟨us, e, hu⟩ := r
    rcases h with rfl | h
    · exact ⟨us, e, hu⟩
    · exact ⟨us, e, All2.cvP h hu⟩

theorem All2.cvS {S : Step} {G : Frz} {ν : Pl} (hfz : S.frozen G ν) : ∀ {cs cs' : List SV} {vs : List Value}, (∀ κ ∈ cs'.flatMap SV.keys, keyOk S κ) → All2 (SV.cv S) cs cs' → All2 (RepS G ν) cs vs → All2 (RepS G (S.pl ν)) cs' vs
  | [], [], [], _, _, _ => trivial
  | _ :: _, c' :: cs', _ :: _, hk, h, r => ⟨SV.cv_rep hfz (fun κ hκ => hk κ (by simp [hκ])) h.1 r.1, All2.cvS hfz (fun κ hκ => hk κ (by
      simp only [List.flatMap_cons, List.mem_append]; exact Or.inr hκ)) h.2 r.2⟩
  | [], [], _ :: _, _, _, r => r.elim
  | [], _ :: _, _, _, h, _ => h.elim
  | _ :: _, [], _, _, h, _ => h.elim
  | _ :: _, _ :: _, [], _, _, r => r.elim

theorem AV.cv_rep {S : Step} {G : Frz} {ν : Pl} {x x' : AV} {v : Value} (hfz : S.frozen G ν) (hk : ∀ κ ∈ x'.keys, keyOk S κ) (h : AV.cv S x x') (r : RepV G ν x v) : RepV G (S.pl ν) x' v := by
  cases x <;> cases x' <;> simp only [AV.cv] at h
  all_goals first
    | trivial
    | exact SV.cv_rep hfz hk h r
    | (obtain ⟨us, e, hu⟩ := r; exact ⟨us, e, All2.cvS hfz hk h hu⟩)

/-- an object behind a step -/
def AO.cv (S : Step) : AO → AO → Prop
  | .box cs, .box cs' => All2 (AC.cv S) cs cs'
  | .box cs, .pbox cs' => All2 (AC.cv S) cs (cs'.map .p)
  | .pbox cs, .pbox cs' => cs = cs' ∨ All2 PC.cv cs cs'
  | .pbox cs, .box cs' => All2 (AC.cv S) (cs.map .p) cs'
  | o, o' => o = o'.ren (rn S.σ) ∧ o'.keys.all (fun κ => !S.nil κ) = true

theorem AO.cv_fixed {S : Step} {o o' : AO} (h : AO.cv S o o') : o.fixed = o'.fixed := by
  cases o <;> cases o' <;> simp only [AO.cv] at h <;> first | rfl | (obtain ⟨h, _⟩ := h; simp [AO.ren] at h)
theorem AO.cv_sat {S : Step} {G G' : Frz} {ν : Pl} {w : World} {κ : Key} {o o' : AO} (hG : G.le G') (hfz : S.frozen G' ν) (hk : ∀ κ ∈ o'.keys, keyOk S κ) (hκ : S.pl ν κ = ν (rn S.σ κ)) (h : AO.cv S o o')
    (r : SatO G ν w (rn S.σ κ) o) : SatO G' (S.pl ν) w κ o' ∧ (o'.lives (S.pl ν) κ ↔ o.lives ν (rn S.σ κ)) := by
  have r' : SatO G' ν w (rn S.σ κ) o := r.mono hG rfl (fun _ _ => rfl) (fun _ => rfl)
  have other : o = o'.ren (rn S.σ) → o'.keys.all (fun κ => !S.nil κ) = true → SatO G' (S.pl ν) w κ o' ∧ (o'.lives (S.pl ν) κ ↔ o.lives ν (rn S.σ κ)) := by
    intro e hn
    subst e
    have hpl : ∀ κ' ∈ o'.keys, S.pl ν κ' = ν (rn S.σ κ') := by
      intro κ' hκ'
      have := List.all_eq_true.1 hn κ' hκ'
      simp only [Step.pl]
      rw [if_neg (by simpa using this)]
      rcases hk κ' hκ' with h | h
      · rw [if_pos h]
      · split
        · rfl
        · rw [h]
    rw [satO_ren] at r'
    exact ⟨SatO.mono G'.le_refl hκ hpl (fun _ => rfl) r', by rw [lives_ren]; exact AO.lives_same hκ⟩
  cases o <;> cases o' <;> simp only [AO.cv] at h
  all_goals first
    | exact other h.1 h.2
    | skip
  · obtain ⟨us, e, h1, h2⟩ := r'
    exact ⟨⟨us, e, by rw [hκ]; exact h1, All2.cvC hfz hk h h2⟩, Iff.rfl⟩
  · obtain ⟨us, e, h1, h2⟩ := r'
    exact ⟨⟨us, e, by rw [hκ]; exact h1, (All2.cvC hfz (fun κ hκ => by rw [keys_map_p] at hκ; simp at hκ) h h2).unmap_p⟩, Iff.rfl⟩
  · obtain ⟨us, e, h1, h2⟩ := r'
    exact ⟨⟨us, e, by rw [hκ]; exact h1, All2.cvC hfz hk h h2.map_p⟩, Iff.rfl⟩
  · obtain ⟨us, e, h1, h2⟩ := r'
    rcases h with rfl | h
    · exact ⟨⟨us, e, by rw [hκ]; exact h1, h2⟩, Iff.rfl⟩
    · exact ⟨⟨us, e, by rw [hκ]; exact h1, All2.cvP h h2⟩, Iff.rfl⟩

/-! ### the step -/
def FOk (S : Step) (f : FF) : Facts → Prop
  | [] => True
  | p :: l => (∃ v, f p.1 = some v ∧ AV.cv S v p.2) ∧ FOk S f l
def BOk (S : Step) (b : BF) : BL → Prop
  | [] => True
  | p :: l => (∃ o, p.2 = some o ∧ ((∃ o₀, b (rn S.σ p.1) = some o₀ ∧ AO.cv S o₀ o ∧ S.nil p.1 = false) ∨ (S.nil p.1 = true ∧ Nat.blt p.1 1000 = true ∧ ∃ k, o = .hot k []))) ∧ BOk S b l
def POk (b : BF) : List (Key × Nat × List (List PC)) → Prop
  | [] => True
  | p :: l => b p.1 = some (.hot p.2.1 p.2.2) ∧ POk b l

theorem FOk.get {S : Step} {f : FF} : ∀ {F : Facts}, FOk S f F → ∀ s v, F.fn s = some v → ∃ v₀, f s = some v₀ ∧ AV.cv S v₀ v
  | [], _, s, v, h => by simp [Facts.fn, look] at h
  | p :: F, h, s, v, hs => by
    simp only [Facts.fn, look] at hs
    split at hs
    · rename_i e; subst e; simp at hs; subst hs; exact h.1
    · exact FOk.get h.2 s v hs
theorem BOk.get {S : Step} {b : BF} : ∀ {B : BL}, BOk S b B → ∀ κ o, B.fn κ = some o →
    (∃ o₀, b (rn S.σ κ) = some o₀ ∧ AO.cv S o₀ o ∧ S.nil κ = false) ∨ (S.nil κ = true ∧ κ < 1000 ∧ ∃ k, o = .hot k [])
  | [], _, κ, o, h => (noB h).elim
  | p :: B, h, κ, o, hs => by
    simp only [BL.fn, look] at hs
    split at hs
    · rename_i e; subst e
      obtain ⟨⟨o', e', h'⟩, _⟩ := h
      rw [e'] at hs
      simp at hs; subst hs
      rcases h' with h' | ⟨h1, h2, h3⟩
      · exact Or.inl h'
      · exact Or.inr ⟨h1, by simpa using h2, h3⟩
    · exact BOk.get h.2 κ o hs
theorem POk.get {b : BF} : ∀ {l : List (Key × Nat × List (List PC))}, POk b l → ∀ κ k es, look l κ = some (k, es) → b κ = some (.hot k es)
  | [], _, _, _, _, h => by simp [look] at h
  | p :: l, h, κ, k, es, hs => by
    simp only [look] at hs
    split at hs
    · rename_i e; subst e; simp only [Option.some.injEq] at hs; have := h.1; rw [hs] at this; exact this
    · exact POk.get h.2 κ k es hs

def keysOk (S : Step) (ks : List Key) : Bool := ks.all fun κ => Nat.blt κ 1000 || Nat.beq (rn S.σ κ) κ
theorem keysOk_sound {S : Step} {ks : List Key} (h : keysOk S ks = true) : ∀ κ ∈ ks, keyOk S κ := by
  intro κ hκ
  have := List.all_eq_true.1 h κ hκ
  rw [Bool.or_eq_true] at this
  rcases this with h | h
  · exact Or.inl (by simpa using h)
  · exact Or.inr (Nat.eq_of_beq_eq_true h)

/-- cells of a row that is frozen -/
def firstN (es : List (List PC)) (k : Nat) (us : List Value) : List Value := us.take (es.length * k)

theorem Gh.step {f : FF} {b : BF} (S : Step) (F : Facts) (B : BL) (hφ : POk b S.φ) (hφB : (S.φ.all fun p => B.all fun q => !Nat.beq (rn S.σ q.1) p.1 || S.nil q.1) = true)
    (hF : FOk S f F) (hB : BOk S b B) (hk : keysOk S (F.keys ++ B.dom ++ B.keys) = true) (hi : injOn (rn S.σ) B.dom = true) : Gh f b F.fn B.fn := by
  classical
  intro n G ν a w hfit
  have hkk := keysOk_sound hk
  -- the rows, frozen
  have hrow : ∀ κ k es, look S.φ κ = some (k, es) → (ν κ).2 ≠ 0 → ∃ us : Array Value, ∃ e, w.heap[(ν κ).1]? = some (.cells us e (0, 0)) ∧ Row G k es (us.toList.take (es.length * k)) ∧ es.length ≤ (ν κ).2 := by
    intro κ k es hl hc
    obtain ⟨h1, h2, h3⟩ := hfit.objs.obj κ _ (hφ.get κ k es hl)
    obtain ⟨us, e, h4, h5, h6⟩ := h3 hc
    have : es.length * k ≤ (ν κ).2 * k := Nat.mul_le_mul_right k h1
    refine ⟨us, e, h4, ⟨by simp; omega, h2, fun i j c hc' => ?_⟩, h1⟩
    obtain ⟨u, g1, g2⟩ := h6 i j c hc'
    refine ⟨u, ?_, g2⟩
    cases h : es[i]? with
    | none => rw [h] at hc'; simp at hc'
    | some q =>
      rw [h] at hc'; simp only [Option.bind_some] at hc'
      have hi' := (List.getElem?_eq_some_iff.1 h).1
      have hj' : j < k := by rw [← h2 q (List.mem_of_getElem? h)]; exact (List.getElem?_eq_some_iff.1 hc').1
      have : (i + 1) * k ≤ es.length * k := Nat.mul_le_mul_right k hi'
      rw [Nat.add_mul, Nat.one_mul] at this
      rw [List.getElem?_take, if_pos (by omega)]; simpa using g1
  let isF : Nat → Prop := fun r => ∃ κ k es, look S.φ κ = some (k, es) ∧ (ν κ).2 ≠ 0 ∧ (ν κ).1 = r
  let G' : Frz := fun r => if isF r then (match w.heap[r]? with | some (.cells us _ _) => (match S.φ.find? (fun p => Nat.beq (ν p.1).1 r && !Nat.beq (ν p.1).2 0) with | some p => us.toList.take (p.2.2.length * p.2.1) | none => []) | _ => []) else G r
  have look_of_mem : ∀ (l : List (Key × Nat × List (List PC))) (q : Key × Nat × List (List PC)), q ∈ l → ∃ x, look l q.1 = some x := by
    intro l
    induction l with
    | nil => intro q hq; simp at hq
    | cons p l ih =>
      intro q hq
      simp only [look]
      split
      · exact ⟨_, rfl⟩
      · rename_i hne
        rcases List.mem_cons.1 hq with rfl | hq
        · exact (hne rfl).elim
        · exact ih q hq
  have mem_of_look : ∀ (l : List (Key × Nat × List (List PC))) κ x, look l κ = some x → (κ, x) ∈ l := by
    intro l
    induction l with
    | nil => intro κ x h; simp [look] at h
    | cons p l ih =>
      intro κ x h
      simp only [look] at h
      split at h
      · rename_i e; subst e; simp at h; subst h; exact List.mem_cons_self
      · exact List.mem_cons_of_mem _ (ih κ x h)
  have hpok : ∀ q ∈ S.φ, b q.1 = some (.hot q.2.1 q.2.2) := by
    have : ∀ l : List (Key × Nat × List (List PC)), POk b l → ∀ q ∈ l, b q.1 = some (.hot q.2.1 q.2.2) := by
      intro l
      induction l with
      | nil => intro _ q hq; simp at hq
      | cons p l ih =>
        intro h q hq
        rcases List.mem_cons.1 hq with rfl | hq
        · exact h.1
        · exact ih h.2 q hq
    exact this _ hφ
  have hG'F : ∀ κ k es, look S.φ κ = some (k, es) → (ν κ).2 ≠ 0 → ∃ us : Array Value, ∃ e, w.heap[(ν κ).1]? = some (.cells us e (0, 0)) ∧ G' (ν κ).1 = us.toList.take (es.length * k) := by
    intro κ k es hl hc
    obtain ⟨us, e, h1, h2, h3⟩ := hrow κ k es hl hc
    refine ⟨us, e, h1, ?_⟩
    have hF' : isF (ν κ).1 := ⟨κ, k, es, hl, hc, rfl⟩
    simp only [G']
    rw [if_pos hF', h1]
    simp only
    cases hfd : S.φ.find? (fun p => Nat.beq (ν p.1).1 (ν κ).1 && !Nat.beq (ν p.1).2 0) with
    | none =>
      have := List.find?_eq_none.1 hfd _ (mem_of_look _ _ _ hl)
      simp [hc] at this
    | some p =>
      simp only
      have h4 := List.find?_some hfd
      have h5 := List.mem_of_find?_eq_some hfd
      simp only [Bool.and_eq_true, Bool.not_eq_true'] at h4
      have h6 : (ν p.1).1 = (ν κ).1 := Nat.eq_of_beq_eq_true h4.1
      have h7 : (ν p.1).2 ≠ 0 := fun h => by rw [h] at h4; simp at h4
      have h8 : p.1 = κ := by
        by_cases e : p.1 = κ
        · exact e
        · exact (hfit.objs.apart p.1 κ _ _ (hpok p h5) (hφ.get κ k es hl) e h7 hc h6).elim
      have h9 := hpok p h5
      rw [h8, hφ.get κ k es hl] at h9
      simp only [Option.some.injEq, AO.hot.injEq] at h9
      rw [h9.1, h9.2]
  have hG0 : ∀ r, isF r → G r = [] := by
    rintro r ⟨κ, k, es, hl, hc, rfl⟩
    exact hfit.objs.free κ _ (hφ.get κ k es hl) rfl hc
  have hG'N : ∀ r, ¬ isF r → G' r = G r := fun r h => by simp only [G']; rw [if_neg h]
  have hle : G.le G' := by
    intro r
    by_cases h : isF r
    · rw [hG0 r h]; exact List.nil_prefix
    · rw [hG'N r h]; exact List.prefix_refl _
  have hSat : Sat G' w := by
    intro r hr
    by_cases h : isF r
    · obtain ⟨κ, k, es, hl, hc, rfl⟩ := h
      obtain ⟨us, e, h1, h2⟩ := hG'F κ k es hl hc
      exact ⟨us, e, (0, 0), h1, by rw [h2]; exact List.take_prefix _ _⟩
    · rw [hG'N r h] at hr ⊢; exact hfit.sat r hr
  have hfz : S.frozen G' ν := by
    intro κ k es hl cap ad h1 h2 h3
    by_cases hc : (ν κ).2 = 0
    · have : es = [] := by cases es with | nil => rfl | cons => simp at h3; omega
      subst this
      exact .sl 0 0 (fun _ => undef) h1 (by simp) (fun h => (h rfl).elim) (by simp) (by simp)
    · rw [h2 hc]
      obtain ⟨us, e, g1, g2, g3⟩ := hrow κ k es hl hc
      obtain ⟨us', e', g4, g5⟩ := hG'F κ k es hl hc
      rw [g1] at g4
      simp only [Option.some.injEq, Obj.cells.injEq] at g4
      have : us = us' := g4.1
      subst this
      exact rep_of_row (g2.mono hle) (fun j u hj => by rw [g5, Nat.zero_add]; exact hj) h1
  -- the keys' places
  have hplk : ∀ κ ∈ F.keys ++ B.dom ++ B.keys, S.nil κ = false → S.pl ν κ = ν (rn S.σ κ) := by
    intro κ hκ hn
    simp only [Step.pl, hn]
    rcases hkk κ hκ with h | h
    · simp [h]
    · simp only [Bool.false_eq_true, if_false]; split
      · rfl
      · rw [h]
  have hobj : ∀ κ o, B.fn κ = some o → (∃ o₀, b (rn S.σ κ) = some o₀ ∧ SatO G' (S.pl ν) w κ o ∧ (o.lives (S.pl ν) κ ↔ o₀.lives ν (rn S.σ κ)) ∧ S.pl ν κ = ν (rn S.σ κ) ∧ S.nil κ = false ∧ (o.fixed = false → o₀.fixed = false)) ∨
      (SatO G' (S.pl ν) w κ o ∧ ¬ o.lives (S.pl ν) κ) := by
    intro κ o ho
    have hdk := keys_of_fn ho
    rcases hB.get κ o ho with ⟨o₀, h1, h2, h3⟩ | ⟨h1, h2, k, rfl⟩
    · left
      have hp := hplk κ (by simp [hdk.1]) h3
      have := AO.cv_sat (κ := κ) hle hfz (fun κ' hκ' => hkk κ' (by have := hdk.2 κ' hκ'; simp [this])) hp h2 (hfit.objs.obj _ _ h1)
      exact ⟨o₀, h1, this.1, this.2, hp, h3, fun e => by rw [AO.cv_fixed h2]; exact e⟩
    · right
      have hp : S.pl ν κ = (0, 0) := by simp only [Step.pl, h1, if_true]
      refine ⟨⟨by simp, by simp, fun h => by rw [hp] at h; exact (h rfl).elim⟩, fun h => ?_⟩
      have h' : (S.pl ν κ).2 ≠ 0 := h
      rw [hp] at h'; exact h' rfl
  have hnotF : ∀ κ o₀, B.fn κ ≠ none → b (rn S.σ κ) = some o₀ → o₀.lives ν (rn S.σ κ) → S.nil κ = false → ¬ isF (ν (rn S.σ κ)).1 := by
    rintro κ o₀ hκ hb hl hn ⟨κ₁, k, es, hlk, hc, e⟩
    have hm := mem_of_look _ _ _ hlk
    have hne : rn S.σ κ ≠ κ₁ := by
      intro e'
      have h1 := List.all_eq_true.1 hφB _ hm
      cases ho : B.fn κ with
      | none => exact hκ ho
      | some o =>
        have hd := (keys_of_fn ho).1
        simp only [BL.dom, List.mem_map] at hd
        obtain ⟨q, hq, rfl⟩ := hd
        have h2 := List.all_eq_true.1 h1 q hq
        rw [hn, e'] at h2
        simp at h2
    exact hfit.objs.apart _ _ _ _ hb (hφ.get κ₁ k es hlk) hne hl hc e.symm
  refine ⟨G', S.pl ν, ⟨hSat, ⟨hfit.holds.size, hfit.holds.defers, fun s v hs => ?_⟩, ⟨fun κ o ho => ?_, fun κ o ho hfx hl => ?_, fun κ o ho hl => ?_, fun κ₁ κ₂ o₁ o₂ ho₁ ho₂ hne hl₁ hl₂ => ?_⟩⟩, ⟨⟨Nat.le_refl _, fun _ _ _ => rfl, fun r _ hx => ?_, hle, rfl, rfl, rfl⟩, fun κ hκ => ?_, fun r hr => ?_⟩⟩
  · obtain ⟨v₀, h1, h2⟩ := hF.get s v hs
    obtain ⟨h3, h4⟩ := hfit.holds.fact s v₀ h1
    exact ⟨h3, AV.cv_rep hfz (fun κ hκ => hkk κ (by have := mem_keys_of_fn hs κ hκ; simp [this])) h2 (RepV.mono hle (fun _ _ => rfl) h4)⟩
  · rcases hobj κ o ho with ⟨_, _, h, _⟩ | ⟨h, _⟩ <;> exact h
  · rcases hobj κ o ho with ⟨o₀, h1, h2, h3, h4, h5, h6⟩ | ⟨_, h⟩
    · rw [h4, hG'N _ (hnotF κ o₀ (by rw [ho]; simp) h1 (h3.1 hl) h5)]
      exact hfit.objs.free _ _ h1 (h6 hfx) (h3.1 hl)
    · exact (h hl).elim
  · rcases hobj κ o ho with ⟨o₀, h1, h2, h3, h4, h5, h6⟩ | ⟨_, h⟩
    · rw [h4]; exact hfit.objs.lt _ _ h1 (h3.1 hl)
    · exact (h hl).elim
  · rcases hobj κ₁ o₁ ho₁ with ⟨o₀, h1, h2, h3, h4, h5, h6⟩ | ⟨_, h⟩
    · rcases hobj κ₂ o₂ ho₂ with ⟨o₀', h1', h2', h3', h4', h5'⟩ | ⟨_, h⟩
      · rw [h4, h4']
        exact hfit.objs.apart _ _ _ _ h1 h1' (fun e => hne (injOn_sound hi _ (keys_of_fn ho₁).1 _ (keys_of_fn ho₂).1 e)) (h3.1 hl₁) (h3'.1 hl₂)
      · exact (h hl₂).elim
    · exact (h hl₁).elim
  · refine hG'N r fun ⟨κ, k, es, hl, hc, e⟩ => hx ⟨κ, _, hφ.get κ k es hl, hc, e⟩
  · have h1 : ¬ κ < 1000 := hκ
    simp only [Step.pl]
    by_cases hn : S.nil κ
    · simp only [Step.nil, Bool.and_eq_true, Nat.blt_eq] at hn; exact (h1 hn.2).elim
    · rw [if_neg hn, if_neg h1]
  · obtain ⟨κ, o, ho, hl, e⟩ := hr
    rcases hobj κ o ho with ⟨o₀, h1, h2, h3, h4, h5, h6⟩ | ⟨_, h⟩
    · left; rw [← e, h4]; exact ⟨_, _, h1, h3.1 hl, rfl⟩
    · exact (h hl).elim

end Go.Abs
