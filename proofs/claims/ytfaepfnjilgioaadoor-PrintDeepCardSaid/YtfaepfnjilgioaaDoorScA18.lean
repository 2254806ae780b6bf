/-
  From a judgement on a body to a contract; calls by contract.
-/
import Derived.Test.YtfaepfnjilgioaaDoorScA17
set_option linter.all false
set_option linter.unusedSimpArgs false
set_option linter.unusedVariables false
namespace Go.Abs
open Go

/-! ### results -/
def ResOk (P : Program) (f : FF) (b : BF) : List ResultVar → List SV → Prop
  | [], [] => True
  | .tmp t :: rs, x :: xs => f t = some (.s x) ∧ ResOk P f b rs xs
  | .cell a t :: rs, x :: xs => (∃ κ m, f a = some (vC (.ptr κ 0)) ∧ (∀ w, (isAgg t).run P w = .ok true w) ∧ (∀ w, (sizeOf t).run P w = .ok m w) ∧
      ((∃ cs, x = .pag cs ∧ b κ = some (.pbox cs) ∧ cs.length = m) ∨ (∃ cs, x = .agg cs ∧ b κ = some (.box cs) ∧ cs.length = m))) ∧ ResOk P f b rs xs
  | _, _ => False

/-- a result's value -/
def resVal (tmps : Array Value) : ResultVar → Sem Value
  | .tmp t => pure (tmps.getD t undef)
  | .cell c t => do loadVar t (← asAddr (tmps.getD c undef))

theorem run_res {P : Program} {n : Nat} {f : FF} {b : BF} {G : Frz} {ν : Pl} {a : Act} {w : World} (hf : Fit n f b G ν a w) : ∀ (rs : List ResultVar) (xs : List SV) (acc : Array Value), ResOk P f b rs xs →
    ∃ vs : List Value, All2 (RepS G ν) xs vs ∧
      (rs.foldlM (fun acc r => acc.push <$> resVal a.tmps r) acc : Sem (Array Value)).run P w = .ok (acc ++ vs.toArray) w
  | [], [], acc, _ => ⟨[], trivial, by simp [Pure.pure]⟩
  | .tmp t :: rs, x :: xs, acc, h => by
    obtain ⟨h1, h2⟩ := h
    obtain ⟨vs, h3, h4⟩ := run_res hf rs xs (acc.push (a.tmps.getD t undef)) h2
    refine ⟨a.tmps.getD t undef :: vs, ⟨(hf.holds.fact t _ h1).2, h3⟩, ?_⟩
    have e0 : (resVal a.tmps (.tmp t)).run P w = .ok (a.tmps.getD t undef) w := rfl
    simp only [List.foldlM_cons, Sem.run_bind, Sem.run_map, e0, Result.andThen]
    rw [h4]; simp
  | .cell c t :: rs, x :: xs, acc, h => by
    obtain ⟨⟨κ, m, h1, hA, hs, hc⟩, h2⟩ := h
    have hp : a.tmps.getD c undef = .pointer (some ⟨(ν κ).1, 0, none⟩) := (hf.holds.fact c _ h1).2
    have hv : ∃ v, RepS G ν x v ∧ (loadVar t ⟨(ν κ).1, 0, none⟩).run P w = .ok v w := by
      rcases hc with ⟨cs, rfl, hb, hl⟩ | ⟨cs, rfl, hb, hl⟩
      · obtain ⟨us, e, hbk, hu⟩ := hf.objs.obj κ _ hb
        refine ⟨.agg us, ⟨us, rfl, hu⟩, ?_⟩
        have := run_loadVarA (P := P) (t := t) (w := w) (blk := (ν κ).1) (off := 0) (us := us.toList) hA hs (by have := hu.len; omega) (fun j u hj => cell_of_blk hbk (by simpa using hj))
        simpa using this
      · obtain ⟨us, e, hbk, hu⟩ := hf.objs.obj κ _ hb
        refine ⟨.agg us, ⟨us, rfl, hu⟩, ?_⟩
        have := run_loadVarA (P := P) (t := t) (w := w) (blk := (ν κ).1) (off := 0) (us := us.toList) hA hs (by have := hu.len; omega) (fun j u hj => cell_of_blk hbk (by simpa using hj))
        simpa using this
    obtain ⟨v, hr, hrun⟩ := hv
    obtain ⟨vs, h3, h4⟩ := run_res hf rs xs (acc.push v) h2
    refine ⟨v :: vs, ⟨hr, h3⟩, ?_⟩
    have e0 : (resVal a.tmps (.cell c t)).run P w = .ok v w := by
      have e1 : (asAddr (.pointer (some ⟨(ν κ).1, 0, none⟩))).run P w = .ok ⟨(ν κ).1, 0, none⟩ w := rfl
      simp only [resVal, Sem.run_bind, hp, e1, Result.andThen, hrun]
    simp only [List.foldlM_cons, Sem.run_bind, Sem.run_map, e0, Result.andThen]
    rw [h4]; simp
  | [], _ :: _, _, h => h.elim
  | .tmp _ :: _, [], _, h => h.elim
  | .cell _ _ :: _, [], _, h => h.elim

theorem run_results {P : Program} {n : Nat} {f : FF} {b : BF} {G : Frz} {ν : Pl} {a : Act} {w : World} (hf : Fit n f b G ν a w) {fn : Func} {xs : List SV} (h : ResOk P f b fn.results.toList xs) :
    ∃ v, (results fn a.tmps).run P w = .ok v w ∧ RepV G ν (outAV xs) v := by
  obtain ⟨vs, h1, h2⟩ := run_res hf fn.results.toList xs #[] h
  have hl := h1.len
  refine ⟨if h : vs.length = 1 then vs[0] else .tuple vs.toArray, ?_, ?_⟩
  · have e : results fn a.tmps = (do
        let vs ← fn.results.mapM (resVal a.tmps)
        pure (if h : vs.size = 1 then vs[0] else .tuple vs)) := rfl
    rw [e, Sem.run_bind, Array.mapM_eq_foldlM, ← Array.foldlM_toList, h2]
    simp [Result.andThen]
  · match xs, vs, h1 with
    | [], [], _ => exact ⟨#[], by simp, trivial⟩
    | [x], [v], h1 => exact h1.1
    | x :: y :: xs, v :: u :: vs, h1 => exact ⟨(v :: u :: vs).toArray, by simp, by simpa using h1⟩

/-! ### a body's end -/
def FinQ (P : Program) (rs : List ResultVar) (outs : List SV) (Bo : BL) (s : Key → Key) : Exit → FF → BF → Prop
  | .normal, f, b | .ret, f, b => ResOk P f b rs (outs.map (SV.ren s)) ∧ ∀ κ o, Bo.fn κ = some o → b (s κ) = some (o.ren s)
  | _, _, _ => False

/-- arguments, in their slots -/
def argF (i : Nat) : List SV → Facts
  | [] => []
  | x :: xs => (i, .s x) :: argF (i + 1) xs

theorem argF_fn : ∀ (xs : List SV) (i s : Nat) (v : AV), (argF i xs).fn s = some v → i ≤ s ∧ ∃ x, xs[s - i]? = some x ∧ v = .s x
  | [], _, _, _, h => by simp [argF, Facts.fn, look] at h
  | x :: xs, i, s, v, h => by
    simp only [argF, Facts.fn, look] at h
    split at h
    · rename_i e; subst e; simp at h; exact ⟨Nat.le_refl _, x, by simp, h.symm⟩
    · rename_i e
      obtain ⟨h1, y, h2, h3⟩ := argF_fn xs (i + 1) s v h
      refine ⟨by omega, y, ?_, h3⟩
      rw [show s - i = (s - (i + 1)) + 1 from by omega]; simpa using h2

theorem con_of_J {P : Program} {f : FuncId} {fn : Func} {c : Code} {n : Nat} {rs : List ResultVar} {args : List SV} {Bi : BL} {outs : List SV} {Bo : BL} (σ : List (Key × Key))
    (hf : P.funcs[f]? = some fn) (hname : (fn.name == "runtime.NumGoroutine") = false) (hb : fn.body = some c) (hn : fn.ntmps = n) (hrs : fn.results.toList = rs) (hargs : args.length ≤ n)
    (hout : ((SV.keysL outs ++ Bo.dom ++ Bo.keys).all fun κ => Nat.ble 1000 κ) = true) (hinj : injOn (rn σ) Bo.dom = true)
    (h : J P n c (FinQ P rs outs Bo (rn σ)) (argF 0 args).fn Bi.fn) : Con P f args Bi outs Bo (σ.map (·.1)) := by
  refine ⟨⟨fn, hf, hname, by rw [hb]; rfl⟩, fun G ν w vs hS ha hB => ?_⟩
  have hal := ha.len
  refine calls_of_wp hf hb (Code.wp_mono ?_ (h G ν { tmps := vs.toArray ++ Array.replicate (fn.ntmps - vs.toArray.size) undef, defers := [] } w ⟨hS, ⟨by simp only [Array.size_append, List.size_toArray, Array.size_replicate, hn]; omega, rfl, fun s v hs => ?_⟩, hB⟩))
  · rintro e a' w' ⟨G', ν₁, f', b', hq, hfit, hsi⟩
    have hq' : (e = .normal ∨ e = .ret) ∧ ResOk P f' b' rs (outs.map (SV.ren (rn σ))) ∧ ∀ κ o, Bo.fn κ = some o → b' (rn σ κ) = some (o.ren (rn σ)) := by
      cases e <;> simp only [FinQ] at hq
      · exact ⟨Or.inl rfl, hq⟩
      · exact ⟨Or.inr rfl, hq⟩
    obtain ⟨he, hres, hobj⟩ := hq'
    obtain ⟨v, hrun, hv⟩ := run_results hfit (fn := fn) (by rw [hrs]; exact hres)
    let ν' : Pl := fun κ => if κ ∈ σ.map (·.1) then ν₁ (rn σ κ) else ν κ
    have hall := List.all_eq_true.1 hout
    have hkey : ∀ κ ∈ SV.keysL outs ++ Bo.dom ++ Bo.keys, ν' κ = ν₁ (rn σ κ) := by
      intro κ hκ
      simp only [ν']
      split
      · rfl
      · rename_i hm
        have h1000 : 1000 ≤ κ := by simpa using hall κ hκ
        have hr : rn σ κ = κ := by
          have : look σ κ = none := by
            cases hl : look σ κ with
            | none => rfl
            | some y =>
              exfalso; apply hm
              have : ∀ l : List (Key × Key), look l κ = some y → κ ∈ l.map (·.1) := by
                intro l
                induction l with
                | nil => simp [look]
                | cons p l ih =>
                  obtain ⟨a, b⟩ := p
                  simp only [look]
                  split
                  · rename_i e; intro _; simp [e]
                  · intro h; simp only [List.map_cons, List.mem_cons]; exact Or.inr (ih h)
              exact this σ hl
          simp [rn, this]
        rw [hr]
        exact (hsi.pl κ (fun h => by unfold own at h; exact absurd h1000 (Nat.not_le_of_gt h))).symm
    have mdom : ∀ κ ∈ Bo.dom, κ ∈ SV.keysL outs ++ Bo.dom ++ Bo.keys := fun κ h => by simp [h]
    have hlive : ∀ κ o, Bo.fn κ = some o → (o.lives ν' κ ↔ (o.ren (rn σ)).lives ν₁ (rn σ κ)) := by
      intro κ o ho
      rw [lives_ren]
      exact AO.lives_same (hkey κ (mdom κ (keys_of_fn ho).1))
    have hpost : ∃ v, Ending.returned v = Ending.returned v ∧ ∃ G' ν', RepV G' ν' (outAV outs) v ∧ Sat G' w' ∧ SatB G' ν' w' Bo.fn ∧
        Keep (blks ν Bi.fn) G w G' w' ∧ (∀ κ, κ ∉ σ.map (·.1) → ν' κ = ν κ) ∧ (∀ κ o, Bo.fn κ = some o → o.lives ν' κ → blks ν Bi.fn (ν' κ).1 ∨ w.heap.size ≤ (ν' κ).1) ∧ (results fn a'.tmps).run P w' = .ok v w' := by
      refine ⟨v, rfl, G', ν', ?_, hfit.sat, ?_, hsi.keep, fun κ hκ => by simp only [ν']; rw [if_neg hκ], fun κ o ho hl => ?_, hrun⟩
      · rw [outAV_ren, repV_ren] at hv
        exact RepV.mono G'.le_refl (fun κ hκ => hkey κ (by have := outAV_keys hκ; simp [this])) hv
      · refine ⟨fun κ o ho => ?_, fun κ o ho hfx hl => ?_, fun κ o ho hl => ?_, fun κ₁ κ₂ o₁ o₂ h₁ h₂ hne hl₁ hl₂ => ?_⟩
        · have := hfit.objs.obj _ _ (hobj κ o ho)
          rw [satO_ren] at this
          exact SatO.mono G'.le_refl (hkey κ (mdom κ (keys_of_fn ho).1)) (fun κ' hκ' => hkey κ' (by have := (keys_of_fn ho).2 κ' hκ'; simp [this])) (fun _ => rfl) this
        · rw [hkey κ (mdom κ (keys_of_fn ho).1)]; exact hfit.objs.free _ _ (hobj κ o ho) (by rw [fixed_ren]; exact hfx) ((hlive κ o ho).1 hl)
        · rw [hkey κ (mdom κ (keys_of_fn ho).1)]; exact hfit.objs.lt _ _ (hobj κ o ho) ((hlive κ o ho).1 hl)
        · rw [hkey κ₁ (mdom κ₁ (keys_of_fn h₁).1), hkey κ₂ (mdom κ₂ (keys_of_fn h₂).1)]
          exact hfit.objs.apart _ _ _ _ (hobj κ₁ o₁ h₁) (hobj κ₂ o₂ h₂) (fun e => hne (injOn_sound hinj _ (keys_of_fn h₁).1 _ (keys_of_fn h₂).1 e)) ((hlive κ₁ o₁ h₁).1 hl₁) ((hlive κ₂ o₂ h₂).1 hl₂)
      · rw [hkey κ (mdom κ (keys_of_fn ho).1)]
        exact hsi.blk _ ⟨_, _, hobj κ o ho, (hlive κ o ho).1 hl, rfl⟩
    obtain ⟨v, hv1, G'', ν'', p1, p2, p3, p4, p5, p6, p7⟩ := hpost
    rcases he with rfl | rfl
    · exact ⟨hfit.holds.defers, v, p7, v, rfl, G'', ν'', p1, p2, p3, p4, p5, p6⟩
    · exact ⟨hfit.holds.defers, v, p7, v, rfl, G'', ν'', p1, p2, p3, p4, p5, p6⟩
  · obtain ⟨_, x, hx, rfl⟩ := argF_fn args 0 s v hs
    simp only [Nat.sub_zero] at hx
    obtain ⟨u, hu, hr⟩ := ha.get s x hx
    have hlt := (List.getElem?_eq_some_iff.1 hu).1
    refine ⟨by omega, ?_⟩
    have : (vs.toArray ++ Array.replicate (fn.ntmps - vs.toArray.size) undef).getD s undef = u := by
      simp only [Array.getD_eq_getD_getElem?]
      rw [Array.getElem?_append_left (by simpa using hlt)]
      simp [hu]
    rw [this]; exact hr

end Go.Abs
