/-
  The two checks, the run of a region as a row of local laws, and the judgement over code.
-/
import Derived.Test.YtfaepfnjilgioaaDoorScA4
set_option linter.all false
set_option linter.unusedSimpArgs false
set_option linter.unusedVariables false
namespace Go.Abs
open Go

/-! ### what an edge orders -/
def ancStep (acc : List Nat) (o : Oper) : List Nat :=
  acc ++ [o.after.toList.foldl (fun s e => if Region.binds .any e then s ||| 2 ^ e.on ||| acc.getD e.on 0 else s) 0]
def ancs (ops : List Oper) : List Nat := ops.foldl ancStep []

theorem anc_fold (acc : List Nat) (D : Nat → Prop) (hacc : ∀ j i, (acc.getD j 0).testBit i = true → D j → D i) :
    ∀ (l : List Edge) (s : Nat), (∀ i, s.testBit i = true → D i) → (∀ e ∈ l, Region.binds .any e = true → D e.on) →
      ∀ i, (l.foldl (fun s e => if Region.binds .any e then s ||| 2 ^ e.on ||| acc.getD e.on 0 else s) s).testBit i = true → D i := by
  intro l
  induction l with
  | nil => intro s hs _ i hi; exact hs i hi
  | cons e l ih =>
    intro s hs hl i hi
    simp only [List.foldl_cons] at hi
    refine ih _ ?_ (fun e' he' => hl e' (List.mem_cons_of_mem _ he')) i hi
    intro k hk
    split at hk
    · rename_i hb
      rw [Nat.testBit_or, Nat.testBit_or, Bool.or_eq_true, Bool.or_eq_true] at hk
      rcases hk with (hk | hk) | hk
      · exact hs k hk
      · rw [Nat.testBit_two_pow] at hk
        have : e.on = k := by simpa using hk
        subst this
        exact hl e (List.mem_cons_self) hb
      · exact hacc e.on k hk (hl e (List.mem_cons_self) hb)
    · exact hs k hk

theorem ancs_sound (ops : List Oper) (D : Nat → Prop) (hcl : ∀ (j : Nat) (o : Oper), ops[j]? = some o → D j → ∀ e ∈ o.after.toList, Region.binds .any e = true → D e.on) :
    ∀ j i, ((ancs ops).getD j 0).testBit i = true → D j → D i := by
  suffices h : ∀ (l : List Oper) (acc : List Nat), (∀ (j : Nat) (o : Oper), l[j]? = some o → D (acc.length + j) → ∀ e ∈ o.after.toList, Region.binds .any e = true → D e.on) →
      (∀ j i, (acc.getD j 0).testBit i = true → D j → D i) → ∀ j i, ((l.foldl ancStep acc).getD j 0).testBit i = true → D j → D i by
    exact h ops [] (by simpa using hcl) (by intro j i h; simp at h)
  intro l
  induction l with
  | nil => intro acc _ hacc; exact hacc
  | cons o l ih =>
    intro acc hl hacc
    simp only [List.foldl_cons]
    refine ih (ancStep acc o) ?_ ?_
    · intro j o' hj hD
      have h := hl (j + 1) o' (by simpa using hj)
      have hlen : (ancStep acc o).length = acc.length + 1 := by simp [ancStep]
      rw [hlen] at hD
      exact h (by rw [show acc.length + (j + 1) = acc.length + 1 + j from by omega]; exact hD)
    · intro j i hb hD
      by_cases hj : j < acc.length
      · have : (ancStep acc o).getD j 0 = acc.getD j 0 := by
          simp [ancStep, List.getD_eq_getElem?_getD, List.getElem?_append_left hj]
        rw [this] at hb
        exact hacc j i hb hD
      · by_cases hje : j = acc.length
        · subst hje
          have : (ancStep acc o).getD acc.length 0 = o.after.toList.foldl (fun s e => if Region.binds .any e then s ||| 2 ^ e.on ||| acc.getD e.on 0 else s) 0 := by
            simp [ancStep, List.getD_eq_getElem?_getD]
          rw [this] at hb
          exact anc_fold acc D hacc o.after.toList 0 (by simp) (fun e he hbn => hl 0 o rfl hD e he hbn) i hb
        · have : (ancStep acc o).getD j 0 = 0 := by
            simp [ancStep, List.getD_eq_getElem?_getD, List.getElem?_append_right (by omega : acc.length ≤ j), show j - acc.length ≠ 0 from by omega]
          rw [this] at hb
          simp at hb

/-! ### the checks -/
def meetS (ops : Array Oper) (x y : Ev) : Bool := x.ws.any (fun s => (y.rs ops).contains s || y.ws.contains s) || (x.rs ops).any fun s => y.ws.contains s
def meetK (x y : Ev) : Bool := x.wk.any (fun s => y.rk.contains s || y.wk.contains s) || x.rk.any fun s => y.wk.contains s

/-- new keys are new, of this frame, and nobody ahead names them; 'pre i k': i is ahead of k -/
def chkNew (evs : List Ev) (F : Facts) (B : BL) (pre : Nat → Nat → Bool) : Bool :=
  evs.all (fun e => e.nw.isEmpty) ||
  (evs.all (fun e => e.nw.all fun κ => Nat.blt κ 1000 && !F.keys.contains κ && !B.dom.contains κ && !B.keys.contains κ) &&
   (List.range evs.length).all fun i => match evs[i]? with
    | none => true
    | some x => x.nw.isEmpty || (List.range evs.length).all fun k => Nat.beq i k || (match evs[k]? with
      | none => true
      | some y => pre i k || !(x.nw.any fun κ => y.mk_.contains κ)))

def chkT (evs : List Ev) (F : Facts) (B : BL) : Bool := chkNew evs F B Nat.blt

def edgesOk (ops : List Oper) : Bool := (List.range ops.length).all fun j => match ops[j]? with
  | some o => o.after.toList.all fun e => !Region.binds .any e || Nat.blt e.on j
  | none => true

def chkD (ops : Array Oper) (evs : List Ev) (F : Facts) (B : BL) : Bool :=
  let an := ancs ops.toList
  edgesOk ops.toList &&
  (List.range evs.length).all (fun j => (List.range j).all fun i => (an.getD j 0).testBit i || (match evs[i]?, evs[j]? with
    | some x, some y => !(meetS ops x y || meetK x y)
    | _, _ => true)) &&
  chkNew evs F B fun i k => (an.getD k 0).testBit i

/-! ### a region's run -/
def Ev.F (e : Ev) (F : Facts) : Facts := match e.o.dst with
  | some d => (d, if e.skip then .any else e.out) :: F
  | none => F
def Ev.B (e : Ev) (B : BL) : BL := if e.skip || e.ro then B else e.Bo ++ B

def Run (P : Program) (ops : Array Oper) (n : Nat) : List Oper → Facts → BL → List Ev → (FF → BF → List Ev → Prop) → Prop
  | [], F, B, evs, K => K F.fn B.fn evs
  | o :: os, F, B, evs, K => ∃ e : Ev, e.o = o ∧ e.Fits P ops n F.fn B.fn ∧ Run P ops n os (e.F F) (e.B B) (evs ++ [e]) K

theorem Ev.F_fn (e : Ev) (F : Facts) : (e.F F).fn = e.f F.fn := by
  unfold Ev.F Ev.f FF.put Facts.fn
  cases e.o.dst <;> rfl

theorem look_append {α : Type} (l l' : List (Nat × α)) (n : Nat) : look (l ++ l') n = if n ∈ l.map (·.1) then look l n else look l' n := by
  induction l with
  | nil => simp
  | cons p l ih =>
    obtain ⟨a, x⟩ := p
    simp only [List.cons_append, look, List.map_cons, List.mem_cons]
    by_cases h : a = n
    · subst h; simp
    · have h' : ¬ n = a := fun e => h e.symm
      simp only [h, if_false, ih, h', false_or]

theorem Ev.B_fn {P : Program} {ops : Array Oper} {n : Nat} {e : Ev} {f : FF} {B : BL} (he : e.Fits P ops n f B.fn) : (e.B B).fn = e.b B.fn := by
  funext κ
  unfold Ev.B Ev.b
  cases hs : e.skip with
  | true => simp
  | false =>
    cases hr : e.ro with
    | true =>
      simp only [Bool.false_or, if_true, Bool.false_eq_true, if_false, BF.over]
      split
      · rename_i hm; exact (he.ro hs hr κ hm).symm
      · rfl
    | false =>
      simp only [Bool.false_or, Bool.false_eq_true, if_false, BF.over, BL.fn, BL.dom]
      rw [look_append]
      split <;> rfl

theorem Run.events {P : Program} {ops : Array Oper} {n : Nat} {K : FF → BF → List Ev → Prop} : ∀ (os : List Oper) (F : Facts) (B : BL) (pre : List Ev), Run P ops n os F B pre K →
    ∃ (evs : List Ev) (F' : FF) (B' : BF), os = evs.map (·.o) ∧ K F' B' (pre ++ evs) ∧ F' = fAt F.fn evs evs.length ∧ B' = bAt B.fn evs evs.length ∧
      ∀ (i : Nat) (e : Ev), evs[i]? = some e → e.Fits P ops n (fAt F.fn evs i) (bAt B.fn evs i) := by
  intro os
  induction os with
  | nil => intro F B pre h; exact ⟨[], F.fn, B.fn, rfl, by rw [List.append_nil]; exact h, rfl, rfl, by simp⟩
  | cons o os ih =>
    intro F B pre h
    obtain ⟨e, he, hfit, hr⟩ := h
    obtain ⟨evs, F', B', h1, h2, h3, h4, h5⟩ := ih _ _ _ hr
    refine ⟨e :: evs, F', B', by simp [he, h1], by simpa using h2, ?_, ?_, ?_⟩
    · rw [h3, Ev.F_fn]; rfl
    · rw [h4, Ev.B_fn hfit]; rfl
    · intro i x hx
      cases i with
      | zero => simp at hx; subst hx; exact hfit
      | succ i =>
        have := h5 i x (by simpa using hx)
        rw [Ev.F_fn, Ev.B_fn hfit] at this
        exact this

theorem mem_keys_of_fn {F : Facts} {s : Nat} {v : AV} (h : F.fn s = some v) : ∀ κ ∈ v.keys, κ ∈ F.keys := by
  unfold Facts.fn at h
  induction F with
  | nil => simp [look] at h
  | cons p F ih =>
    obtain ⟨x, y⟩ := p
    simp only [look] at h
    split at h
    · simp only [Option.some.injEq] at h; subst h
      intro κ hκ; simp [Facts.keys, hκ]
    · intro κ hκ
      have := ih h κ hκ
      simp only [Facts.keys, List.flatMap_cons, List.mem_append] at this ⊢
      exact Or.inr this

theorem chkNew_sound {evs : List Ev} {F : Facts} {B : BL} {pre : Nat → Nat → Bool} (h : chkNew evs F B pre = true) :
    (∀ e ∈ evs, Fresh e.nw F.fn B.fn) ∧ (∀ e ∈ evs, ∀ κ ∈ e.nw, κ < 1000) ∧
    ∀ (i k : Nat) (x y : Ev), i ≠ k → evs[i]? = some x → evs[k]? = some y → ∀ κ, κ ∈ x.nw → κ ∈ y.mk_ → pre i k = true := by
  unfold chkNew at h
  rw [Bool.or_eq_true, Bool.and_eq_true] at h
  rcases h with h | ⟨h1, h2⟩
  · have hem : ∀ e ∈ evs, e.nw = [] := by
      intro e he
      have := List.all_eq_true.1 h e he
      simpa using this
    refine ⟨fun e he => ?_, fun e he κ hκ => ?_, fun i k x y _ hx _ κ hκ => ?_⟩
    · rw [hem e he]; exact ⟨fun _ _ _ κ hκ => by simp at hκ, fun _ _ _ => ⟨by simp, fun κ hκ => by simp at hκ⟩⟩
    · rw [hem e he] at hκ; simp at hκ
    · rw [hem x (List.mem_of_getElem? hx)] at hκ; simp at hκ
  · have hh : ∀ e ∈ evs, ∀ κ ∈ e.nw, κ < 1000 ∧ κ ∉ F.keys ∧ κ ∉ B.dom ∧ κ ∉ B.keys := by
      intro e he κ hκ
      have := List.all_eq_true.1 (List.all_eq_true.1 h1 e he) κ hκ
      simp only [Bool.and_eq_true, Bool.not_eq_true', Nat.blt_eq] at this
      obtain ⟨⟨⟨a, b⟩, c⟩, d⟩ := this
      refine ⟨a, ?_, ?_, ?_⟩
      · intro hm; rw [List.contains_iff_mem.2 hm] at b; cases b
      · intro hm; rw [List.contains_iff_mem.2 hm] at c; cases c
      · intro hm; rw [List.contains_iff_mem.2 hm] at d; cases d
    refine ⟨fun e he => ⟨fun s v hv κ hκ hm => (hh e he κ hκ).2.1 (mem_keys_of_fn hv κ hm), fun κ o ho => ?_⟩, fun e he κ hκ => (hh e he κ hκ).1, ?_⟩
    · obtain ⟨h3, h4⟩ := keys_of_fn ho
      exact ⟨fun hm => (hh e he κ hm).2.2.1 h3, fun κ' hκ' hm => (hh e he κ' hκ').2.2.2 (h4 κ' hm)⟩
    · intro i k x y hne hx hy κ hκ hm
      have hi := List.all_eq_true.1 h2 i (by simp [(List.getElem?_eq_some_iff.1 hx).1])
      simp only [hx] at hi
      rw [Bool.or_eq_true] at hi
      rcases hi with hi | hi
      · have : x.nw = [] := by simpa using hi
        rw [this] at hκ; simp at hκ
      · have hk := List.all_eq_true.1 hi k (by simp [(List.getElem?_eq_some_iff.1 hy).1])
        simp only [hy] at hk
        rw [Bool.or_eq_true, Bool.or_eq_true] at hk
        rcases hk with hk | hk | hk
        · exact absurd (Nat.eq_of_beq_eq_true hk) hne
        · exact hk
        · exfalso
          simp only [Bool.not_eq_true'] at hk
          have : (x.nw.any fun κ => y.mk_.contains κ) = true := List.any_eq_true.2 ⟨κ, hκ, List.contains_iff_mem.2 hm⟩
          rw [this] at hk; cases hk

theorem meetS_of {ops : Array Oper} {x y : Ev} {s : Nat} (h : s ∈ x.ws ∧ (s ∈ y.rs ops ∨ s ∈ y.ws) ∨ s ∈ x.rs ops ∧ s ∈ y.ws) : meetS ops x y = true := by
  unfold meetS
  rw [Bool.or_eq_true]
  rcases h with ⟨h1, h2⟩ | ⟨h1, h2⟩
  · left
    refine List.any_eq_true.2 ⟨s, h1, ?_⟩
    rw [Bool.or_eq_true]
    exact h2.imp List.contains_iff_mem.2 List.contains_iff_mem.2
  · right
    exact List.any_eq_true.2 ⟨s, h1, List.contains_iff_mem.2 h2⟩

theorem meetK_of {x y : Ev} {s : Nat} (h : s ∈ x.wk ∧ (s ∈ y.rk ∨ s ∈ y.wk) ∨ s ∈ x.rk ∧ s ∈ y.wk) : meetK x y = true := by
  unfold meetK
  rw [Bool.or_eq_true]
  rcases h with ⟨h1, h2⟩ | ⟨h1, h2⟩
  · left
    refine List.any_eq_true.2 ⟨s, h1, ?_⟩
    rw [Bool.or_eq_true]
    exact h2.imp List.contains_iff_mem.2 List.contains_iff_mem.2
  · right
    exact List.any_eq_true.2 ⟨s, h1, List.contains_iff_mem.2 h2⟩

/-! ### the run of a region -/
/-- keys of this frame -/
def own (κ : Key) : Prop := κ < 1000

/-- a state that fits -/
structure Fit (n : Nat) (f : FF) (b : BF) (G : Frz) (ν : Pl) (a : Act) (w : World) : Prop where
  sat : Sat G w
  holds : Holds G ν n f a
  objs : SatB G ν w b

theorem text_order {P : Program} {ops : Array Oper} {n : Nat} {evs : List Ev} {f₀ : FF} {b₀ : BF} (ht : Told P ops n evs f₀ b₀ (· < ·))
    (hown : ∀ e ∈ evs, ∀ κ ∈ e.nw, κ < 1000) {Q : Exit → Act → World → Prop} {ν₀ : Pl} {G₀ : Frz} {w₀ : World}
    (hQ : ∀ G ν a w, Fit n (fAt f₀ evs evs.length) (bAt b₀ evs evs.length) G ν a w → Since ν₀ b₀ G₀ w₀ ν (bAt b₀ evs evs.length) G w own → Q .normal a w) :
    ∀ (d i : Nat), i + d = evs.length → ∀ G ν f b a w, Fit n f b G ν a w → Inv ops evs f₀ b₀ (· < i) f b → Since ν₀ b₀ G₀ w₀ ν b G w own →
      wpOps P ops Q (List.range' i d) a w := by
  have hlen : ops.size = evs.length := by rw [← Array.length_toList, ht.eq]; simp
  intro d
  induction d with
  | zero =>
    intro i hi G ν f b a w hfit hI hs
    have hi' : i = evs.length := by omega
    subst hi'
    obtain ⟨e1, e2⟩ := hI.ended ht (fun i h => h) (by omega)
    subst e1 e2
    exact hQ G ν a w hfit hs
  | succ d ih =>
    intro i hi G ν f b a w hfit hI hs
    obtain ⟨e, he⟩ : ∃ e, evs[i]? = some e := ⟨evs[i], List.getElem?_eq_getElem (by omega)⟩
    have hops : ops[i]? = some e.o := by
      have : ops.toList[i]? = some e.o := by rw [ht.eq]; simp [he]
      simpa using this
    rw [List.range'_succ, wpOps_cons]
    have hpre : ∀ k, k < i → k < i := fun _ h => h
    have hcl : ∀ k m, k < m → m < i → k < i := fun _ _ h h' => Nat.lt_trans h h'
    obtain ⟨h1, h2, h3⟩ := hI.ready ht he (by omega) hpre hcl
    have hI' := hI.step ht he (by omega) hpre hcl
    refine Ev.step (ht.fits i e he) hops hfit.sat hfit.holds hfit.objs h1 h2 h3 _ ?_
    intro G' ν' a' w' g1 g2 g3 g4 g5 g6
    refine ih (i + 1) (by omega) G' ν' _ _ a' w' ⟨g1, g2, g3⟩ ?_ (hs.step ⟨g4, fun κ hκ => g5 κ fun hm => hκ (hown e (List.mem_of_getElem? he) κ hm), g6⟩ fun _ h => h)
    have : (fun k => k < i ∨ k = i) = (fun k => k < i + 1) := by funext k; simp; omega
    rw [← this]; exact hI'

def cnt (g : Nat → Bool) : Nat → Nat
  | 0 => 0
  | n + 1 => cnt g n + if g n then 1 else 0

theorem cnt_set (g : Nat → Bool) (i : Nat) (hi : g i = true) : ∀ n, i < n → cnt (fun k => if k = i then false else g k) n + 1 = cnt g n := by
  have same : ∀ n, n ≤ i → cnt (fun k => if k = i then false else g k) n = cnt g n := by
    intro n
    induction n with
    | zero => intro _; rfl
    | succ n ih => intro h; have h' : ¬ n = i := by omega
                   simp only [cnt, ih (by omega), h', if_false]
  intro n
  induction n with
  | zero => intro h; omega
  | succ n ih =>
    intro h
    simp only [cnt]
    by_cases e : n = i
    · subst e; rw [same n (Nat.le_refl _)]; simp [hi]
    · have := ih (by omega)
      simp only [e, if_false]; omega

theorem cnt_zero (g : Nat → Bool) : ∀ n, cnt g n = 0 → ∀ i, i < n → g i = false := by
  intro n
  induction n with
  | zero => intro _ i h; omega
  | succ n ih =>
    intro h i hi
    simp only [cnt] at h
    by_cases e : i = n
    · subst e; cases hg : g i with
      | false => rfl
      | true => rw [hg] at h; simp at h
    · exact ih (by omega) i (by omega)

theorem any_order {P : Program} {ops : Array Oper} {n : Nat} {evs : List Ev} {f₀ : FF} {b₀ : BF} {pre : Nat → Nat → Prop} (ht : Told P ops n evs f₀ b₀ pre)
    (hown : ∀ e ∈ evs, ∀ κ ∈ e.nw, κ < 1000) {Q : Exit → Act → World → Prop} {ν₀ : Pl} {G₀ : Frz} {w₀ : World}
    (hirr : ∀ i, ¬ pre i i) (hpre : ∀ (D : Nat → Prop), (∀ (j : Nat) (o : Oper), ops.toList[j]? = some o → D j → ∀ e ∈ o.after.toList, Region.binds .any e = true → D e.on) → ∀ i j, pre i j → D j → D i)
    (hon : ∀ (j : Nat) (o : Oper), ops.toList[j]? = some o → ∀ e ∈ o.after.toList, Region.binds .any e = true → e.on < j)
    (hQ : ∀ G ν a w, Fit n (fAt f₀ evs evs.length) (bAt b₀ evs evs.length) G ν a w → Since ν₀ b₀ G₀ w₀ ν (bAt b₀ evs evs.length) G w own → Q .normal a w) :
    ∀ (fuel : Nat) (listed : Array Bool), listed.size = ops.size → cnt (fun k => !listed.getD k true) ops.size ≤ fuel →
      (∀ (j : Nat) (o : Oper), ops.toList[j]? = some o → listed.getD j false = true → ∀ e ∈ o.after.toList, Region.binds .any e = true → listed.getD e.on false = true) →
      ∀ G ν f b a w, Fit n f b G ν a w → Inv ops evs f₀ b₀ (fun k => listed.getD k false = true) f b → Since ν₀ b₀ G₀ w₀ ν b G w own →
      wpAny P .any ops Q fuel listed a w := by
  have hlen : ops.size = evs.length := by rw [← Array.length_toList, ht.eq]; simp
  have hgetD : ∀ (l : Array Bool) k, k < l.size → l.getD k true = l.getD k false := by
    intro l k hk; simp [hk]
  have hout : ∀ (l : Array Bool) k, l.size ≤ k → l.getD k false = false := by
    intro l k hk; simp [Nat.not_lt.2 hk]
  -- if nothing is ready all is done
  have hend : ∀ (listed : Array Bool), listed.size = ops.size → Region.ready .any ops listed = [] → ∀ i, i < ops.size → listed.getD i false = true := by
    intro listed hsz hr i
    induction i using Nat.strongRecOn with
    | _ i ih =>
      intro hi
      cases hl : listed.getD i false with
      | true => rfl
      | false =>
        exfalso
        obtain ⟨o, ho⟩ : ∃ o, ops[i]? = some o := ⟨ops[i], Array.getElem?_eq_getElem hi⟩
        have hol : ops.toList[i]? = some o := by simpa using ho
        have hm : i ∈ Region.ready .any ops listed := by
          unfold Region.ready
          refine List.mem_filter.2 ⟨by simpa using hi, ?_⟩
          rw [hgetD listed i (by omega), hl, ho]
          simp only [Bool.not_false, Bool.true_and, Option.map_some, Option.getD_some]
          rw [Array.all_eq_true_iff_forall_mem]
          intro e he
          cases hb : Region.binds .any e with
          | false => rfl
          | true =>
            have hlt := hon i o hol e (by simpa using he) hb
            simp only [Bool.not_true, Bool.false_or]
            exact ih e.on hlt (by omega)
        rw [hr] at hm; simp at hm
  intro fuel
  induction fuel with
  | zero =>
    intro listed hsz hc hcl G ν f b a w hfit hI hs
    have hall : ∀ i, i < ops.size → listed.getD i false = true := by
      intro i hi
      have := cnt_zero (fun k => !listed.getD k true) ops.size (by omega) i hi
      simp only [Bool.not_eq_false'] at this
      rw [← hgetD listed i (by omega)]; exact this
    obtain ⟨e1, e2⟩ := hI.ended ht (fun i h => hall i (by omega)) (by simp [hout listed evs.length (by omega)])
    subst e1 e2
    refine ⟨?_, hQ G ν a w hfit hs⟩
    unfold Region.ready
    rw [List.filter_eq_nil_iff]
    intro i hi
    have hi' : i < ops.size := by simpa using hi
    rw [hgetD listed i (by omega), hall i hi']; simp
  | succ fuel ih =>
    intro listed hsz hc hcl G ν f b a w hfit hI hs
    refine ⟨fun hr => ?_, fun i hi => ?_⟩
    · have hall := hend listed hsz hr
      obtain ⟨e1, e2⟩ := hI.ended ht (fun i h => hall i (by omega)) (by simp [hout listed evs.length (by omega)])
      subst e1 e2
      exact hQ G ν a w hfit hs
    · unfold Region.ready at hi
      obtain ⟨hir, hip⟩ := List.mem_filter.1 hi
      have hi' : i < ops.size := by simpa using hir
      obtain ⟨e, he⟩ : ∃ e, evs[i]? = some e := ⟨evs[i], List.getElem?_eq_getElem (by omega)⟩
      have hol : ops.toList[i]? = some e.o := by rw [ht.eq]; simp [he]
      have hops : ops[i]? = some e.o := by simpa using hol
      rw [hops] at hip
      simp only [Option.map_some, Option.getD_some, Bool.and_eq_true, Bool.not_eq_true'] at hip
      obtain ⟨hnl, hall⟩ := hip
      have hnl' : listed.getD i false = false := by rw [← hgetD listed i (by omega)]; exact hnl
      have hpreds : ∀ x ∈ e.o.after.toList, Region.binds .any x = true → listed.getD x.on false = true := by
        intro x hx hb
        rw [Array.all_eq_true_iff_forall_mem] at hall
        have := hall x (by simpa using hx)
        rw [hb] at this
        simpa using this
      let D : Nat → Prop := fun k => listed.getD k false = true
      have hD1 : ∀ k, pre k i → D k := by
        intro k hk
        have := hpre (fun m => listed.getD m false = true ∨ m = i) (by
          intro j o hj hd x hx hb
          rcases hd with hd | hd
          · exact Or.inl (hcl j o hj hd x hx hb)
          · subst hd; rw [hol] at hj; cases hj; exact Or.inl (hpreds x hx hb)) k i hk (Or.inr rfl)
        rcases this with h | h
        · exact h
        · subst h
          exact (hirr k hk).elim
      have hcl' : ∀ k m, pre k m → D m → D k := fun k m hk hm => hpre D hcl k m hk hm
      obtain ⟨h1, h2, h3⟩ := hI.ready ht he (by simp [hnl']) hD1 hcl'
      have hI' := hI.step ht he (by simp [hnl']) hD1 hcl'
      refine Ev.step (ht.fits i e he) hops hfit.sat hfit.holds hfit.objs h1 h2 h3 _ ?_
      intro G' ν' a' w' g1 g2 g3 g4 g5 g6
      have hset : ∀ k, (listed.setIfInBounds i true).getD k false = true ↔ (listed.getD k false = true ∨ k = i) := by
        intro k
        by_cases e : i = k
        · subst e
          have hi'' : i < listed.size := by omega
          simp [hi'']
        · have e' : ¬ k = i := fun h => e h.symm
          simp [Array.getElem?_setIfInBounds_ne e, e']
      refine ih _ (by simpa using hsz) ?_ ?_ G' ν' _ _ a' w' ⟨g1, g2, g3⟩ ?_ (hs.step ⟨g4, fun κ hκ => g5 κ fun hm => hκ (hown e (List.mem_of_getElem? he) κ hm), g6⟩ fun _ h => h)
      · have := cnt_set (fun k => !listed.getD k true) i (by rw [hnl]; rfl) ops.size hi'
        have heq : (fun k => !(listed.setIfInBounds i true).getD k true) = (fun k => if k = i then false else !listed.getD k true) := by
          funext k
          by_cases e : i = k
          · subst e
            have hi'' : i < listed.size := by omega
            simp [hi'']
          · have e' : ¬ k = i := fun h => e h.symm
            simp [Array.getElem?_setIfInBounds_ne e, e']
        rw [heq]; omega
      · intro j o hj hd x hx hb
        rw [hset] at hd ⊢
        rcases hd with hd | hd
        · exact Or.inl (hcl j o hj hd x hx hb)
        · subst hd; rw [hol] at hj; cases hj; exact Or.inl (hpreds x hx hb)
      · have : (fun k => (listed.setIfInBounds i true).getD k false = true) = (fun k => D k ∨ k = i) := by
          funext k; exact propext (hset k)
        rw [this]; exact hI'

end Go.Abs
