/-
  The judgement over code: what a piece of code makes of a state that is told.
-/
import Derived.Test.YtfaepfnjilgioaaDoorScA5
set_option linter.all false
set_option linter.unusedSimpArgs false
set_option linter.unusedVariables false
namespace Go.Abs
open Go

def J (P : Program) (n : Nat) (c : Code) (Q : Exit → FF → BF → Prop) (f : FF) (b : BF) : Prop :=
  ∀ G ν a w, Fit n f b G ν a w → c.wp P (fun e a' w' => ∃ G' ν' f' b', Q e f' b' ∧ Fit n f' b' G' ν' a' w' ∧ Since ν b G w ν' b' G' w' own) a w

theorem Fit.drawn {n : Nat} {f : FF} {b : BF} {G : Frz} {ν : Pl} {a : Act} {w : World} (h : Fit n f b G ν a w) (d : Nat) :
    Fit n f b G ν a { w with drawn := d } :=
  ⟨h.sat, h.holds, { obj := fun κ o ho => by
                       have := h.objs.obj κ o ho
                       cases o <;> exact this
                     free := h.objs.free, lt := h.objs.lt, apart := h.objs.apart }⟩

theorem Since.drawn (ν : Pl) (b : BF) (G : Frz) (w : World) (new : Key → Prop) (d : Nat) : Since ν b G w ν b G { w with drawn := d } new :=
  ⟨⟨Nat.le_refl _, fun _ _ _ => rfl, fun _ _ _ => rfl, G.le_refl, rfl, rfl, rfl⟩, fun _ _ => rfl, fun _ h => Or.inl h⟩

theorem told_T {P : Program} {ops : Array Oper} {n : Nat} {evs : List Ev} {F : Facts} {B : BL} (he : ops.toList = evs.map (·.o))
    (hf : ∀ (i : Nat) (e : Ev), evs[i]? = some e → e.Fits P ops n (fAt F.fn evs i) (bAt B.fn evs i)) (hc : chkT evs F B = true) :
    Told P ops n evs F.fn B.fn (· < ·) ∧ ∀ e ∈ evs, ∀ κ ∈ e.nw, κ < 1000 := by
  obtain ⟨h1, h2, h3⟩ := chkNew_sound hc
  exact ⟨⟨he, hf, fun i j _ _ h _ _ _ _ => h, fun i j _ _ h _ _ _ _ => h, h1, fun i k x y hne hx hy κ hκ hm => by simpa using h3 i k x y hne hx hy κ hκ hm⟩, h2⟩

theorem told_D {P : Program} {ops : Array Oper} {n : Nat} {evs : List Ev} {F : Facts} {B : BL} (he : ops.toList = evs.map (·.o))
    (hf : ∀ (i : Nat) (e : Ev), evs[i]? = some e → e.Fits P ops n (fAt F.fn evs i) (bAt B.fn evs i)) (hc : chkD ops evs F B = true) :
    Told P ops n evs F.fn B.fn (fun i j => i ≠ j ∧ ((ancs ops.toList).getD j 0).testBit i = true) ∧ (∀ e ∈ evs, ∀ κ ∈ e.nw, κ < 1000) ∧
    (∀ (j : Nat) (o : Oper), ops.toList[j]? = some o → ∀ e ∈ o.after.toList, Region.binds .any e = true → e.on < j) := by
  unfold chkD at hc
  simp only [Bool.and_eq_true] at hc
  obtain ⟨⟨h0, hc1⟩, hc2⟩ := hc
  obtain ⟨h1, h2, h3⟩ := chkNew_sound hc2
  have hm : ∀ (i j : Nat) (x y : Ev), i < j → evs[i]? = some x → evs[j]? = some y → (meetS ops x y || meetK x y) = true → ((ancs ops.toList).getD j 0).testBit i = true := by
    intro i j x y hij hx hy hmeet
    have hj := List.all_eq_true.1 hc1 j (by simp [(List.getElem?_eq_some_iff.1 hy).1])
    have hi := List.all_eq_true.1 hj i (by simpa using hij)
    rw [Bool.or_eq_true] at hi
    rcases hi with hi | hi
    · exact hi
    · simp only [hx, hy, hmeet] at hi; cases hi
  refine ⟨⟨he, hf, fun i j x y h hx hy s hs => ⟨by omega, hm i j x y h hx hy (by rw [meetS_of hs]; rfl)⟩,
    fun i j x y h hx hy κ hκ => ⟨by omega, hm i j x y h hx hy (by rw [meetK_of hκ, Bool.or_true])⟩, h1,
    fun i k x y hne hx hy κ hκ hmm => ⟨hne, h3 i k x y hne hx hy κ hκ hmm⟩⟩, h2, ?_⟩
  intro j o hj e hem hb
  have := List.all_eq_true.1 h0 j (by simpa using (List.getElem?_eq_some_iff.1 hj).1)
  simp only [hj] at this
  have := List.all_eq_true.1 this e hem
  rw [hb] at this
  simpa using this

theorem J.region {P : Program} {n : Nat} {id : Nat} {ops : Array Oper} {Q : Exit → FF → BF → Prop} {F : Facts} {B : BL}
    (h : Run P ops n ops.toList F B [] fun f' b' evs => chkT evs F B = true ∧ Q .normal f' b') : J P n (.region id ops false) Q F.fn B.fn := by
  intro G ν a w hfit
  obtain ⟨evs, F', B', h1, ⟨h2, h3⟩, h4, h5, h6⟩ := Run.events _ _ _ _ h
  simp only [List.nil_append] at h2
  obtain ⟨ht, hown⟩ := told_T h1 h6 h2
  refine wp_region ?_
  have hlen : ops.size = evs.length := by rw [← Array.length_toList, h1]; simp
  rw [List.range_eq_range', hlen]
  have hI : Inv ops evs F.fn B.fn (· < 0) F.fn B.fn := by
    have : (fun k : Nat => k < 0) = (fun _ => False) := by funext k; simp
    rw [this]; exact Inv.begin ht
  refine text_order ht hown (ν₀ := ν) (G₀ := G) (w₀ := w) ?_ evs.length 0 (by omega) G ν _ _ a w hfit hI (Since.refl _ _ _ _ _)
  intro G' ν' a' w' hf' hs'
  rw [← h4, ← h5] at hf'
  rw [← h5] at hs'
  exact ⟨G', ν', _, _, h3, hf', hs'⟩

theorem J.draw {P : Program} {n : Nat} {id : Nat} {ops : Array Oper} {Q : Exit → FF → BF → Prop} {F : Facts} {B : BL} (hP : P.follows .mixedOrders = true)
    (h : Run P ops n ops.toList F B [] fun f' b' evs => chkD ops evs F B = true ∧ Q .normal f' b') : J P n (.region id ops true) Q F.fn B.fn := by
  intro G ν a w hfit
  obtain ⟨evs, F', B', h1, ⟨h2, h3⟩, h4, h5, h6⟩ := Run.events _ _ _ _ h
  simp only [List.nil_append] at h2
  obtain ⟨ht, hown, hon⟩ := told_D h1 h6 h2
  refine wp_region_any hP ?_
  have hrep : ∀ k, (Array.replicate ops.size false).getD k false = false := by
    intro k
    by_cases hk : k < ops.size <;> simp [hk]
  have hI : Inv ops evs F.fn B.fn (fun k => (Array.replicate ops.size false).getD k false = true) F.fn B.fn := by
    have : (fun k => (Array.replicate ops.size false).getD k false = true) = (fun _ => False) := by funext k; rw [hrep]; simp
    rw [this]; exact Inv.begin ht
  have hcnt : ∀ (g : Nat → Bool) m, cnt g m ≤ m := by
    intro g m
    induction m with
    | zero => simp [cnt]
    | succ m ih => simp only [cnt]; split <;> omega
  refine any_order ht hown (fun i h => h.1 rfl) ?_ hon (ν₀ := ν) (G₀ := G) (w₀ := w) ?_ ops.size _ (by simp) (hcnt _ _) (by intro j o _ hd; rw [hrep] at hd; cases hd) G ν _ _ a _
    (hfit.drawn _) hI (Since.drawn _ _ _ _ _ _)
  · intro D hD i j hij hDj
    exact ancs_sound ops.toList D hD j i hij.2 hDj
  · intro G' ν' a' w' hf' hs'
    rw [← h4, ← h5] at hf'
    rw [← h5] at hs'
    exact ⟨G', ν', _, _, h3, hf', hs'⟩

section
variable {P : Program} {n : Nat} {Q : Exit → FF → BF → Prop} {f : FF} {b : BF}

theorem J.mono {c : Code} {Q' : Exit → FF → BF → Prop} (hq : ∀ e f b, Q e f b → Q' e f b) (h : J P n c Q f b) : J P n c Q' f b :=
  fun G ν a w hf => Code.wp_mono (fun _ _ _ ⟨G', ν', f', b', h1, h2, h3⟩ => ⟨G', ν', f', b', hq _ _ _ h1, h2, h3⟩) (h G ν a w hf)

theorem J.skip (h : Q .normal f b) : J P n .skip Q f b := fun G ν _ _ hf => wp_skip ⟨G, ν, f, b, h, hf, Since.refl _ _ _ _ _⟩
theorem J.exit {id : Nat} (h : Q (.exit id) f b) : J P n (.exit id) Q f b := fun G ν _ _ hf => wp_exit ⟨G, ν, f, b, h, hf, Since.refl _ _ _ _ _⟩
theorem J.ret (h : Q .ret f b) : J P n .ret Q f b := fun G ν _ _ hf => wp_ret ⟨G, ν, f, b, h, hf, Since.refl _ _ _ _ _⟩

/-- exits, told of states -/
def thn (next : FF → BF → Prop) (Q : Exit → FF → BF → Prop) : Exit → FF → BF → Prop
  | .normal, f, b => next f b
  | e, f, b => Q e f b

theorem J.seq {x y : Code} (h : J P n x (thn (J P n y Q) Q) f b) : J P n (.seq x y) Q f b := by
  intro G ν a w hf
  refine wp_seq (Code.wp_mono ?_ (h G ν a w hf))
  rintro e a₁ w₁ ⟨G₁, ν₁, f₁, b₁, hq, hf₁, hs₁⟩
  cases e with
  | normal =>
    refine Code.wp_mono ?_ (hq G₁ ν₁ a₁ w₁ hf₁)
    rintro e a₂ w₂ ⟨G₂, ν₂, f₂, b₂, hq₂, hf₂, hs₂⟩
    exact ⟨G₂, ν₂, f₂, b₂, hq₂, hf₂, hs₁.step hs₂ fun _ h => h⟩
  | _ => exact ⟨G₁, ν₁, f₁, b₁, hq, hf₁, hs₁⟩

def inBlk (id : Nat) (Q : Exit → FF → BF → Prop) : Exit → FF → BF → Prop
  | .exit id', f, b => if id' = id then Q .normal f b else Q (.exit id') f b
  | e, f, b => Q e f b

theorem J.block {id : Nat} {c : Code} (h : J P n c (inBlk id Q) f b) : J P n (.block id c) Q f b := by
  intro G ν a w hf
  refine wp_block (Code.wp_mono ?_ (h G ν a w hf))
  rintro e a₁ w₁ ⟨G₁, ν₁, f₁, b₁, hq, hf₁, hs₁⟩
  cases e with
  | exit id' =>
    simp only [inBlk] at hq
    simp only [Exit.inBlock]
    split at hq
    · rename_i h; rw [if_pos h]; exact ⟨G₁, ν₁, f₁, b₁, hq, hf₁, hs₁⟩
    · rename_i h; rw [if_neg h]; exact ⟨G₁, ν₁, f₁, b₁, hq, hf₁, hs₁⟩
  | _ => exact ⟨G₁, ν₁, f₁, b₁, hq, hf₁, hs₁⟩

/-- an operand that is a bool -/
theorem J.cond {t : Tmp} {x y : Code} {c : Bool} (hc : f t = some (.s (.one (.p (.v (.bool c))))))
    (ht : c = true → J P n x Q f b) (he : c = false → J P n y Q f b) : J P n (.cond (.tmp t) x y) Q f b := by
  intro G ν a w hf
  have hv : a.eval (.tmp t) = .bool c := by
    have := (hf.holds.fact t _ hc).2
    simp only [Act.eval]
    generalize a.tmps.getD t undef = v at this ⊢
    simp only [RepV, RepS, RepC] at this
    cases this; rfl
  exact wp_cond_split hv (fun h => ht h G ν a w hf) (fun h => he h G ν a w hf)

/-- less is known -/
theorem J.weaken {c : Code} {f' : FF} {b' : BF} (h : J P n c Q f' b') (hf : ∀ s v, f' s = some v → f s = some v) (hb : ∀ κ o, b' κ = some o → b κ = some o) : J P n c Q f b := by
  intro G ν a w hfit
  have hsub : ∀ r, blks ν b' r → blks ν b r := fun r ⟨κ, o, h, hl, hr⟩ => ⟨κ, o, hb κ o h, hl, hr⟩
  refine Code.wp_mono ?_ (h G ν a w ⟨hfit.sat, ⟨hfit.holds.size, hfit.holds.defers, fun s v hs => hfit.holds.fact s v (hf s v hs)⟩,
    ⟨fun κ o ho => hfit.objs.obj κ o (hb κ o ho), fun κ o ho => hfit.objs.free κ o (hb κ o ho), fun κ o ho => hfit.objs.lt κ o (hb κ o ho),
      fun κ κ' o o' ho ho' => hfit.objs.apart κ κ' o o' (hb κ o ho) (hb κ' o' ho')⟩⟩)
  rintro e a' w' ⟨G', ν', f₁, b₁, hq, hf₁, hs₁⟩
  exact ⟨G', ν', f₁, b₁, hq, hf₁, ⟨hs₁.keep.mono fun r _ h => hsub r h, hs₁.pl, fun r hr => (hs₁.blk r hr).imp (hsub r) id⟩⟩

theorem least_of (p : Nat → Prop) (h : ∃ m, p m) : ∃ m, p m ∧ ∀ k, p k → m ≤ k := by
  obtain ⟨m, hm⟩ := h
  induction m using Nat.strongRecOn with
  | _ m ih =>
    by_cases hk : ∃ k, p k ∧ k < m
    · obtain ⟨k, h1, h2⟩ := hk; exact ih k h2 h1
    · exact ⟨m, hm, fun k h1 => by
        rcases Nat.lt_or_ge k m with h2 | h2
        · exact (hk ⟨k, h1, h2⟩).elim
        · exact h2⟩

/-- a loop, by a number that every round lowers -/
theorem J.loop {σ : Type} {c : Code} (I : σ → FF → BF → Prop) (μ : σ → Nat) (s₀ : σ) (h₀ : I s₀ f b)
    (round : ∀ s f b, I s f b → J P n c (thn (fun f' b' => ∃ s', I s' f' b' ∧ μ s' < μ s) Q) f b) : J P n (.loop c) Q f b := by
  classical
  intro G ν a w hf
  -- the states that a round may begin in, and the least number among those that tell one
  let R : Act → World → Nat → Prop := fun a' w' m => ∃ s f' b' G' ν', I s f' b' ∧ μ s = m ∧ Fit n f' b' G' ν' a' w' ∧ Since ν b G w ν' b' G' w' own
  let least : Act → World → Nat := fun a' w' => if h : ∃ m, R a' w' m then Classical.choose (least_of _ h) else 0
  refine wp_loop (fun a' w' => ∃ m, R a' w' m) least ⟨μ s₀, s₀, f, b, G, ν, h₀, rfl, hf, Since.refl _ _ _ _ _⟩ ?_
  intro a' w' hex
  have hl : least a' w' = Classical.choose (least_of _ hex) := by simp only [least]; rw [dif_pos hex]
  obtain ⟨s, f', b', G', ν', hI, hm, hf', hs'⟩ := (Classical.choose_spec (least_of _ hex)).1
  refine Code.wp_mono ?_ (round s f' b' hI G' ν' a' w' hf')
  rintro e a₂ w₂ ⟨G₂, ν₂, f₂, b₂, hq, hf₂, hs₂⟩
  have hs := hs'.step hs₂ fun _ h => h
  cases e with
  | normal =>
    obtain ⟨s₂, hI₂, hlt⟩ := hq
    have hR : R a₂ w₂ (μ s₂) := ⟨s₂, f₂, b₂, G₂, ν₂, hI₂, rfl, hf₂, hs⟩
    refine ⟨⟨_, hR⟩, ?_⟩
    have hex₂ : ∃ m, R a₂ w₂ m := ⟨_, hR⟩
    have hl₂ : least a₂ w₂ = Classical.choose (least_of _ hex₂) := by simp only [least]; rw [dif_pos hex₂]
    rw [hl, hl₂]
    have := (Classical.choose_spec (least_of _ hex₂)).2 _ hR
    omega
  | _ => exact ⟨G₂, ν₂, f₂, b₂, hq, hf₂, hs⟩

end
end Go.Abs
