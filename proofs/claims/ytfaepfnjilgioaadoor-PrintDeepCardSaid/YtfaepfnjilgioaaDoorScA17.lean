/-
  Contracts of functions, and calls.
-/
import Derived.Test.YtfaepfnjilgioaaDoorScA16
set_option linter.all false
set_option linter.unusedSimpArgs false
set_option linter.unusedVariables false
namespace Go.Abs
open Go

/-! ### other names for keys -/
def AC.ren (s : Key → Key) : AC → AC
  | .p x => .p x
  | .ptr κ off => .ptr (s κ) off
  | .el κ k i j => .el (s κ) k i j
  | .at_ cs => .at_ cs
  | .hs κ n => .hs (s κ) n
  | .mp κ => .mp (s κ)
  | .clo f first caps => .clo f first (caps.map s)
def SV.ren (s : Key → Key) : SV → SV
  | .one c => .one (c.ren s)
  | .agg cs => .agg (cs.map (AC.ren s))
  | .pag cs => .pag cs
def AV.ren (s : Key → Key) : AV → AV
  | .any => .any
  | .s x => .s (x.ren s)
  | .tup xs => .tup (xs.map (SV.ren s))
def AO.ren (s : Key → Key) : AO → AO
  | .box cs => .box (cs.map (AC.ren s))
  | .pbox cs => .pbox cs
  | .hot k es => .hot k es
  | .raw R => .raw R
  | .mapo es => .mapo (es.map fun p => (p.1, p.2.ren s))
  | .glob g cs q => .glob g cs q
  | .gmap g es q => .gmap g (es.map fun p => (p.1, p.2.ren s)) q
def BL.ren (s : Key → Key) (B : BL) : BL := B.map fun p => (s p.1, p.2.map (AO.ren s))

theorem repC_ren {G : Frz} {ν : Pl} {s : Key → Key} {c : AC} {v : Value} : RepC G ν (c.ren s) v ↔ RepC G (fun κ => ν (s κ)) c v := by
  cases c <;> simp [AC.ren, RepC, Function.comp_def]
theorem all2C_ren {G : Frz} {ν : Pl} {s : Key → Key} : ∀ {cs : List AC} {vs : List Value}, All2 (RepC G ν) (cs.map (AC.ren s)) vs ↔ All2 (RepC G fun κ => ν (s κ)) cs vs
  | [], [] => Iff.rfl
  | _ :: _, _ :: _ => and_congr repC_ren all2C_ren
  | [], _ :: _ => Iff.rfl
  | _ :: _, [] => Iff.rfl
theorem repS_ren {G : Frz} {ν : Pl} {s : Key → Key} {c : SV} {v : Value} : RepS G ν (c.ren s) v ↔ RepS G (fun κ => ν (s κ)) c v := by
  cases c with
  | one c => exact repC_ren
  | agg cs => simp only [SV.ren, RepS, all2C_ren]
  | pag cs => exact Iff.rfl
theorem all2S_ren {G : Frz} {ν : Pl} {s : Key → Key} : ∀ {cs : List SV} {vs : List Value}, All2 (RepS G ν) (cs.map (SV.ren s)) vs ↔ All2 (RepS G fun κ => ν (s κ)) cs vs
  | [], [] => Iff.rfl
  | _ :: _, _ :: _ => and_congr repS_ren all2S_ren
  | [], _ :: _ => Iff.rfl
  | _ :: _, [] => Iff.rfl
theorem repV_ren {G : Frz} {ν : Pl} {s : Key → Key} {c : AV} {v : Value} : RepV G ν (c.ren s) v ↔ RepV G (fun κ => ν (s κ)) c v := by
  cases c with
  | any => exact Iff.rfl
  | s c => exact repS_ren
  | tup cs => simp only [AV.ren, RepV, all2S_ren]
theorem repM_ren {G : Frz} {ν : Pl} {s : Key → Key} : ∀ {es : List (Value × SV)} {l : List MapEntry}, RepM G ν (es.map fun p => (p.1, p.2.ren s)) l ↔ RepM G (fun κ => ν (s κ)) es l
  | [], [] => Iff.rfl
  | _ :: _, _ :: _ => and_congr (and_congr Iff.rfl repS_ren) repM_ren
  | [], _ :: _ => Iff.rfl
  | _ :: _, [] => Iff.rfl
theorem repU_ren {G : Frz} {ν : Pl} {s : Key → Key} {es : List (Value × SV)} {l : List MapEntry} : RepU G ν (es.map fun p => (p.1, p.2.ren s)) l ↔ RepU G (fun κ => ν (s κ)) es l := by
  refine ⟨fun h => ⟨fun e he => ?_, fun p hp => ?_⟩, fun h => ⟨fun e he => ?_, fun p hp => ?_⟩⟩
  · obtain ⟨p, hp, h1, h2⟩ := h.1 e he
    obtain ⟨q, hq, rfl⟩ := List.mem_map.1 hp
    exact ⟨q, hq, h1, repS_ren.1 h2⟩
  · obtain ⟨e, he, h1, h2⟩ := h.2 _ (List.mem_map_of_mem hp)
    exact ⟨e, he, h1, repS_ren.1 h2⟩
  · obtain ⟨p, hp, h1, h2⟩ := h.1 e he
    exact ⟨_, List.mem_map_of_mem hp, h1, repS_ren.2 h2⟩
  · obtain ⟨q, hq, rfl⟩ := List.mem_map.1 hp
    obtain ⟨e, he, h1, h2⟩ := h.2 q hq
    exact ⟨e, he, h1, repS_ren.2 h2⟩
theorem satO_ren {G : Frz} {ν : Pl} {w : World} {s : Key → Key} {κ : Key} {o : AO} : SatO G ν w (s κ) (o.ren s) ↔ SatO G (fun κ => ν (s κ)) w κ o := by
  cases o <;> simp only [AO.ren, SatO, all2C_ren, repM_ren, repU_ren]
theorem fixed_ren {s : Key → Key} {o : AO} : (o.ren s).fixed = o.fixed := by cases o <;> rfl
theorem lives_ren {ν : Pl} {s : Key → Key} {κ : Key} {o : AO} : (o.ren s).lives ν (s κ) ↔ o.lives (fun κ => ν (s κ)) κ := by
  cases o <;> exact Iff.rfl

theorem BL.ren_fn {s : Key → Key} {B : BL} (hinj : ∀ a ∈ B.dom, ∀ b ∈ B.dom, s a = s b → a = b) {κ : Key} (hκ : κ ∈ B.dom) {o : AO} : (B.ren s).fn (s κ) = some o → ∃ o', B.fn κ = some o' ∧ o = o'.ren s := by
  induction B with
  | nil => simp [BL.dom] at hκ
  | cons p B ih =>
    obtain ⟨x, y⟩ := p
    intro h
    simp only [BL.fn, BL.ren, List.map_cons, look] at h ⊢
    by_cases e : x = κ
    · subst e
      rw [if_pos rfl] at h
      rw [if_pos rfl]
      cases y with
      | none => simp at h
      | some y => simp at h; exact ⟨y, by simp, h.symm⟩
    · have hne : s x ≠ s κ := fun h' => e (hinj x (by simp [BL.dom]) κ hκ h')
      rw [if_neg hne] at h
      rw [if_neg e]
      have hκ' : κ ∈ BL.dom B := by simp [BL.dom] at hκ ⊢; exact hκ.resolve_left (fun h => e h.symm)
      exact ih (fun a ha b hb => hinj a (by simp [BL.dom] at ha ⊢; exact Or.inr ha) b (by simp [BL.dom] at hb ⊢; exact Or.inr hb)) hκ' h
theorem BL.ren_dom {s : Key → Key} {B : BL} {κ : Key} {o : AO} (h : (B.ren s).fn κ = some o) : ∃ κ₀ ∈ B.dom, κ = s κ₀ := by
  have := (keys_of_fn h).1
  simp only [BL.dom, BL.ren, List.map_map, List.mem_map] at this
  obtain ⟨p, hp, rfl⟩ := this
  exact ⟨p.1, List.mem_map.2 ⟨p, hp, rfl⟩, rfl⟩
theorem BL.ren_of {s : Key → Key} {B : BL} (hinj : ∀ a ∈ B.dom, ∀ b ∈ B.dom, s a = s b → a = b) {κ : Key} {o : AO} (h : B.fn κ = some o) : (B.ren s).fn (s κ) = some (o.ren s) := by
  induction B with
  | nil => simp [BL.fn, look] at h
  | cons p B ih =>
    obtain ⟨x, y⟩ := p
    have hκ := (keys_of_fn h).1
    simp only [BL.fn, BL.ren, List.map_cons, look] at h ⊢
    by_cases e : x = κ
    · subst e
      rw [if_pos rfl] at h
      rw [if_pos rfl]
      simp at h; subst h; rfl
    · have hne : s x ≠ s κ := fun h' => e (hinj x (by simp [BL.dom]) κ hκ h')
      rw [if_neg e] at h
      rw [if_neg hne]
      exact ih (fun a ha b hb => hinj a (by simp [BL.dom] at ha ⊢; exact Or.inr ha) b (by simp [BL.dom] at hb ⊢; exact Or.inr hb)) h

/-! ### contracts -/
def outAV : List SV → AV
  | [x] => .s x
  | xs => .tup xs

theorem outAV_ren (s : Key → Key) : ∀ xs : List SV, outAV (xs.map (SV.ren s)) = (outAV xs).ren s
  | [] => rfl
  | [_] => rfl
  | _ :: _ :: _ => rfl

def CallOk (P : Program) (f : FuncId) : Prop := ∃ fn, P.funcs[f]? = some fn ∧ (fn.name == "runtime.NumGoroutine") = false ∧ fn.body.isNone = false

/-- what a call does -/
def ConR (P : Program) (f : FuncId) (args : List SV) (Bi : BL) (outs : List SV) (Bo : BL) (nk : List Key) : Prop :=
  ∀ G ν w (vs : List Value), Sat G w → All2 (RepS G ν) args vs → SatB G ν w Bi.fn →
    Calls P f vs.toArray w fun e w' => ∃ v, e = .returned v ∧ ∃ G' ν', RepV G' ν' (outAV outs) v ∧ Sat G' w' ∧ SatB G' ν' w' Bo.fn ∧
      Keep (blks ν Bi.fn) G w G' w' ∧ (∀ κ, κ ∉ nk → ν' κ = ν κ) ∧ (∀ κ o, Bo.fn κ = some o → o.lives ν' κ → blks ν Bi.fn (ν' κ).1 ∨ w.heap.size ≤ (ν' κ).1)

def Con (P : Program) (f : FuncId) (args : List SV) (Bi : BL) (outs : List SV) (Bo : BL) (nk : List Key) : Prop := CallOk P f ∧ ConR P f args Bi outs Bo nk

def SV.keysL (xs : List SV) : List Key := xs.flatMap SV.keys
theorem outAV_keys {xs : List SV} {κ : Key} (h : κ ∈ (outAV xs).keys) : κ ∈ SV.keysL xs := by
  cases xs with
  | nil => simp [outAV, AV.keys] at h
  | cons x xs =>
    cases xs with
    | nil => simpa [outAV, AV.keys, SV.keysL] using h
    | cons y ys => simpa [outAV, AV.keys, SV.keysL] using h

/-- no two keys of a list are the same under a renaming -/
def injOn (s : Key → Key) : List Key → Bool
  | [] => true
  | a :: l => l.all (fun b => Nat.beq a b || !Nat.beq (s a) (s b)) && injOn s l
theorem injOn_sound {s : Key → Key} : ∀ {l : List Key}, injOn s l = true → ∀ a ∈ l, ∀ b ∈ l, s a = s b → a = b
  | [], _, a, ha, _, _, _ => by simp at ha
  | c :: l, h, a, ha, b, hb, e => by
    simp only [injOn, Bool.and_eq_true] at h
    obtain ⟨h1, h2⟩ := h
    have key : ∀ x ∈ l, s c = s x → c = x := fun x hx he => by
      have := List.all_eq_true.1 h1 x hx
      rw [Bool.or_eq_true] at this
      rcases this with h | h
      · exact Nat.eq_of_beq_eq_true h
      · rw [he] at h; simp at h
    rcases List.mem_cons.1 ha with rfl | ha'
    · rcases List.mem_cons.1 hb with rfl | hb'
      · rfl
      · exact key b hb' e
    · rcases List.mem_cons.1 hb with rfl | hb'
      · exact (key a ha' e.symm).symm
      · exact injOn_sound h2 a ha' b hb' e

def rn (τ : List (Key × Key)) : Key → Key := fun κ => (look τ κ).getD κ

theorem Con.ren {P : Program} {f : FuncId} {args : List SV} {Bi : BL} {outs : List SV} {Bo : BL} {nk : List Key} (h : Con P f args Bi outs Bo nk) (s : Key → Key)
    (hinj : injOn s (nk ++ SV.keysL outs ++ Bo.dom ++ Bo.keys ++ Bi.dom) = true) :
    Con P f (args.map (SV.ren s)) (Bi.ren s) (outs.map (SV.ren s)) (Bo.ren s) (nk.map s) := by
  refine ⟨h.1, fun G ν w vs hS ha hB => ?_⟩
  have hin := injOn_sound hinj
  have mnk : ∀ κ ∈ nk, κ ∈ nk ++ SV.keysL outs ++ Bo.dom ++ Bo.keys ++ Bi.dom := fun κ h => by simp [h]
  have mout : ∀ κ ∈ SV.keysL outs, κ ∈ nk ++ SV.keysL outs ++ Bo.dom ++ Bo.keys ++ Bi.dom := fun κ h => by simp [h]
  have mdom : ∀ κ ∈ Bo.dom, κ ∈ nk ++ SV.keysL outs ++ Bo.dom ++ Bo.keys ++ Bi.dom := fun κ h => by simp [h]
  have mkey : ∀ κ ∈ Bo.keys, κ ∈ nk ++ SV.keysL outs ++ Bo.dom ++ Bo.keys ++ Bi.dom := fun κ h => by simp [h]
  have mbi : ∀ κ ∈ Bi.dom, κ ∈ nk ++ SV.keysL outs ++ Bo.dom ++ Bo.keys ++ Bi.dom := fun κ h => by simp [h]
  have hinBo : ∀ a ∈ Bo.dom, ∀ b ∈ Bo.dom, s a = s b → a = b := fun a ha b hb => hin a (mdom a ha) b (mdom b hb)
  have hinBi : ∀ a ∈ Bi.dom, ∀ b ∈ Bi.dom, s a = s b → a = b := fun a ha b hb => hin a (mbi a ha) b (mbi b hb)
  have hB₁ : SatB G (fun κ => ν (s κ)) w Bi.fn := by
    refine ⟨fun κ o ho => satO_ren.1 (hB.obj _ _ (BL.ren_of hinBi ho)), fun κ o ho hfx hl => hB.free _ _ (BL.ren_of hinBi ho) (by rw [fixed_ren]; exact hfx) (lives_ren.2 hl), fun κ o ho hl => hB.lt _ _ (BL.ren_of hinBi ho) (lives_ren.2 hl), ?_⟩
    intro κ κ' o o' ho ho' hne hl hl'
    exact hB.apart _ _ _ _ (BL.ren_of hinBi ho) (BL.ren_of hinBi ho') (fun e => hne (hinBi _ (keys_of_fn ho).1 _ (keys_of_fn ho').1 e)) (lives_ren.2 hl) (lives_ren.2 hl')
  have hblk : ∀ r, blks (fun κ => ν (s κ)) Bi.fn r → blks ν (Bi.ren s).fn r := fun r ⟨κ, o, ho, hl, hr⟩ => ⟨s κ, o.ren s, BL.ren_of hinBi ho, lives_ren.2 hl, hr⟩
  refine Calls.mono (h.2 G _ w vs hS (all2S_ren.1 ha) hB₁) ?_
  rintro e w' ⟨v, rfl, G', ν₁, hv, hS', hB', hk, hν, hnew⟩
  -- the places of the new keys
  let ν' : Pl := fun κ' => match nk.find? (fun κ => Nat.beq (s κ) κ') with
    | some κ => ν₁ κ
    | none => ν κ'
  have hνnk : ∀ κ, κ ∈ nk ++ SV.keysL outs ++ Bo.dom ++ Bo.keys ++ Bi.dom → ν' (s κ) = ν₁ κ := by
    intro κ hm
    simp only [ν']
    cases hf : nk.find? (fun κ₀ => Nat.beq (s κ₀) (s κ)) with
    | some κ₀ =>
      have h1 := List.find?_some hf
      have h2 := List.mem_of_find?_eq_some hf
      simp only
      rw [hin κ₀ (mnk _ h2) κ hm (Nat.eq_of_beq_eq_true h1)]
    | none =>
      simp only
      have : κ ∉ nk := fun hk => by
        have := List.find?_eq_none.1 hf κ hk
        simp at this
      rw [hν κ this]
  have hνo : ∀ κ', κ' ∉ nk.map s → ν' κ' = ν κ' := by
    intro κ' hk'
    simp only [ν']
    cases hf : nk.find? (fun κ₀ => Nat.beq (s κ₀) κ') with
    | some κ₀ =>
      have h1 := List.find?_some hf
      exact (hk' (List.mem_map.2 ⟨κ₀, List.mem_of_find?_eq_some hf, Nat.eq_of_beq_eq_true h1⟩)).elim
    | none => rfl
  have hobj : ∀ κ o, (Bo.ren s).fn κ = some o → ∃ κ₀ o₀, κ = s κ₀ ∧ o = o₀.ren s ∧ Bo.fn κ₀ = some o₀ ∧ κ₀ ∈ Bo.dom ∧ ν' κ = ν₁ κ₀ := by
    intro κ o ho
    obtain ⟨κ₀, h1, rfl⟩ := BL.ren_dom ho
    obtain ⟨o₀, h2, rfl⟩ := BL.ren_fn hinBo h1 ho
    exact ⟨κ₀, o₀, rfl, rfl, h2, h1, hνnk κ₀ (mdom κ₀ h1)⟩
  have hlive : ∀ κ₀ o₀, Bo.fn κ₀ = some o₀ → κ₀ ∈ Bo.dom → ((o₀.ren s).lives ν' (s κ₀) ↔ o₀.lives ν₁ κ₀) := by
    intro κ₀ o₀ ho hd
    rw [lives_ren]
    exact AO.lives_same (hνnk κ₀ (mdom κ₀ hd))
  refine ⟨v, rfl, G', ν', ?_, hS', ?_, hk.mono fun r _ hr => hblk r hr, hνo, ?_⟩
  · rw [outAV_ren, repV_ren]
    exact RepV.mono G'.le_refl (fun κ hκ => hνnk κ (mout κ (outAV_keys hκ))) hv
  · refine ⟨fun κ o ho => ?_, fun κ o ho hfx hl => ?_, fun κ o ho hl => ?_, fun κ₁ κ₂ o₁ o₂ h₁ h₂ hne hl₁ hl₂ => ?_⟩
    · obtain ⟨κ₀, o₀, rfl, rfl, h3, h4, h5⟩ := hobj κ o ho
      rw [satO_ren]
      exact SatO.mono (ν := ν₁) G'.le_refl h5 (fun κ' hκ' => hνnk κ' (mkey κ' ((keys_of_fn h3).2 κ' hκ'))) (fun _ => rfl) (hB'.obj _ _ h3)
    · obtain ⟨κ₀, o₀, rfl, rfl, h3, h4, h5⟩ := hobj κ o ho
      rw [h5]; exact hB'.free _ _ h3 (by rw [fixed_ren] at hfx; exact hfx) ((hlive κ₀ o₀ h3 h4).1 hl)
    · obtain ⟨κ₀, o₀, rfl, rfl, h3, h4, h5⟩ := hobj κ o ho
      rw [h5]; exact hB'.lt _ _ h3 ((hlive κ₀ o₀ h3 h4).1 hl)
    · obtain ⟨κ₀, o₀, rfl, rfl, h3, h4, h5⟩ := hobj κ₁ o₁ h₁
      obtain ⟨κ₀', o₀', rfl, rfl, h3', h4', h5'⟩ := hobj κ₂ o₂ h₂
      rw [h5, h5']
      exact hB'.apart _ _ _ _ h3 h3' (fun e => hne (by rw [e])) ((hlive κ₀ o₀ h3 h4).1 hl₁) ((hlive κ₀' o₀' h3' h4').1 hl₂)
  · intro κ o ho hl
    obtain ⟨κ₀, o₀, rfl, rfl, h3, h4, h5⟩ := hobj κ o ho
    rw [h5]
    exact (hnew κ₀ o₀ h3 ((hlive κ₀ o₀ h3 h4).1 hl)).imp (hblk _) id

end Go.Abs
