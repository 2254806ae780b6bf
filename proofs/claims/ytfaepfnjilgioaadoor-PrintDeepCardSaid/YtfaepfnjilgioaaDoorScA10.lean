/-
  Rules: addresses, loads, stores.
-/
import Derived.Test.YtfaepfnjilgioaaDoorScA9
set_option linter.all false
set_option linter.unusedSimpArgs false
set_option linter.unusedVariables false
namespace Go.Abs
open Go

section
variable {P : Program} {ops : Array Oper} {n : Nat} {os : List Oper} {F : Facts} {B : BL} {evs : List Ev} {K : FF → BF → List Ev → Prop}
variable {d t u ty : Nat} {x y z : Operand} {pos : String} {aft : Array Edge} {g : Option (Nat × Bool)}

theorem run_sureAddr {w : World} (a : Addr) : (Instr.sureAddr (.pointer (some a))).run P w = .ok a w := rfl
theorem run_underlying {w : World} {t : Nat} {de : TypeDesc} (h : P.underlying t = some de) : (underlying t).run P w = .ok de w := by
  simp [underlying, program, Sem.run, Sem.run_bind, Result.andThen, h, Pure.pure, bind, Sem.bind]

/-! ### fields -/
theorem run_fieldAt {w : World} {s : Nat} {fs : Array Field} {i : Nat} {fd : Field} {m blk off : Nat} (hu : P.underlying s = some (.struct fs)) (hf : fs[i]? = some fd)
    (hs : ∀ w, (sizeOf fd.type).run P w = .ok m w) (hm : Nat.beq m 0 = false) :
    (Instr.fieldAt s (.pointer (some ⟨blk, off, none⟩)) i).run P w = .ok (.pointer (some ⟨blk, off + fd.offset, none⟩)) w := by
  have hm' : m ≠ 0 := fun e => by rw [e] at hm; cases hm
  simp [Instr.fieldAt, Sem.run_bind, run_underlying hu, Result.andThen, hf, run_sureAddr, fieldPlace, hs, hm', addr_add, Sem.run, Pure.pure]

theorem R.fldPtr {κ off s i m : Nat} {fs : Array Field} {fd : Field} (hu : P.underlying s = some (.struct fs)) (hf : fs[i]? = some fd)
    (hs : ∀ w, (sizeOf fd.type).run P w = .ok m w) (hm : Nat.beq m 0 = false)
    (hg : GOk ops F ⟨some d, .fieldAddr s x i, ty, pos, aft, g⟩ false) (hd : Nat.blt d n = true) (hx : ov F.fn x = some (vC (.ptr κ off)))
    (h : Run P ops n os ((d, vC (.ptr κ (off + fd.offset))) :: F) B (evs ++ [ev0 ⟨some d, .fieldAddr s x i, ty, pos, aft, g⟩ [(x, vC (.ptr κ off))] (vC (.ptr κ (off + fd.offset)))]) K) :
    Run P ops n (⟨some d, .fieldAddr s x i, ty, pos, aft, g⟩ :: os) F B evs K := by
  refine Run.pure d [(x, vC (.ptr κ off))] _ hg rfl hd ⟨hx, trivial⟩ ?_ h
  intro G ν ρ w _ hr
  have e := hr.1
  simp only [RepV, RepS, RepC] at e
  exact ⟨.pointer (some ⟨(ν κ).1, off + fd.offset, none⟩), by simp [execOp, e, run_fieldAt hu hf hs hm, Sem.run_bind, Result.andThen, Sem.run, Pure.pure], rfl⟩

theorem R.fldEl {κ k i' j s i m : Nat} {fs : Array Field} {fd : Field} (hu : P.underlying s = some (.struct fs)) (hf : fs[i]? = some fd)
    (hs : ∀ w, (sizeOf fd.type).run P w = .ok m w) (hm : Nat.beq m 0 = false)
    (hg : GOk ops F ⟨some d, .fieldAddr s x i, ty, pos, aft, g⟩ false) (hd : Nat.blt d n = true) (hx : ov F.fn x = some (vC (.el κ k i' j)))
    (h : Run P ops n os ((d, vC (.el κ k i' (j + fd.offset))) :: F) B (evs ++ [ev0 ⟨some d, .fieldAddr s x i, ty, pos, aft, g⟩ [(x, vC (.el κ k i' j))] (vC (.el κ k i' (j + fd.offset)))]) K) :
    Run P ops n (⟨some d, .fieldAddr s x i, ty, pos, aft, g⟩ :: os) F B evs K := by
  refine Run.pure d [(x, vC (.el κ k i' j))] _ hg rfl hd ⟨hx, trivial⟩ ?_ h
  intro G ν ρ w _ hr
  have e := hr.1
  simp only [RepV, RepS, RepC] at e
  exact ⟨.pointer (some ⟨(ν κ).1, i' * k + (j + fd.offset), none⟩), by simp [execOp, e, run_fieldAt hu hf hs hm, Sem.run_bind, Result.andThen, Sem.run, Pure.pure, Nat.add_assoc], rfl⟩

theorem rep_at_drop {G : Frz} {ν : Pl} {cs : List PC} {blk off o : Nat} (hc : ∀ (j : Nat) (c : PC), cs[j]? = some c → ∃ u, (G blk)[off + j]? = some u ∧ RepP G c u) :
    RepC G ν (.at_ (cs.drop o)) (.pointer (some ⟨blk, off + o, none⟩)) :=
  ⟨blk, off + o, rfl, fun j c hj => by
    obtain ⟨u, h1, h2⟩ := hc (o + j) c (by simpa using hj)
    exact ⟨u, by rwa [Nat.add_assoc], h2⟩⟩

theorem R.fldAt {cs : List PC} {s i m : Nat} {fs : Array Field} {fd : Field} (hu : P.underlying s = some (.struct fs)) (hf : fs[i]? = some fd)
    (hs : ∀ w, (sizeOf fd.type).run P w = .ok m w) (hm : Nat.beq m 0 = false)
    (hg : GOk ops F ⟨some d, .fieldAddr s x i, ty, pos, aft, g⟩ false) (hd : Nat.blt d n = true) (hx : ov F.fn x = some (vC (.at_ cs)))
    (h : Run P ops n os ((d, vC (.at_ (cs.drop fd.offset))) :: F) B (evs ++ [ev0 ⟨some d, .fieldAddr s x i, ty, pos, aft, g⟩ [(x, vC (.at_ cs))] (vC (.at_ (cs.drop fd.offset)))]) K) :
    Run P ops n (⟨some d, .fieldAddr s x i, ty, pos, aft, g⟩ :: os) F B evs K := by
  refine Run.pure d [(x, vC (.at_ cs))] _ hg rfl hd ⟨hx, trivial⟩ ?_ h
  intro G ν ρ w _ hr
  obtain ⟨blk, off, e, hc⟩ := hr.1
  exact ⟨_, by simp [execOp, e, run_fieldAt hu hf hs hm, Sem.run_bind, Result.andThen, Sem.run, Pure.pure], rep_at_drop (ν := ν) hc⟩

/-! ### elements -/
theorem R.idxSl {es : List (List PC)} {c : List PC} {k e : Nat} {κ' : IntKind} {i : Int} (hu : P.underlying t = some (.slice e)) (hs : ∀ w, (sizeOf e).run P w = .ok k w)
    (hg : GOk ops F ⟨some d, .indexAddr t x y, ty, pos, aft, g⟩ false) (hd : Nat.blt d n = true) (hx : ov F.fn x = some (vL k es)) (hy : ov F.fn y = some (vV (.int κ' i)))
    (h0 : 0 ≤ i) (hc : es[i.toNat]? = some c)
    (h : Run P ops n os ((d, vC (.at_ c)) :: F) B (evs ++ [ev0 ⟨some d, .indexAddr t x y, ty, pos, aft, g⟩ [(x, vL k es), (y, vV (.int κ' i))] (vC (.at_ c))]) K) :
    Run P ops n (⟨some d, .indexAddr t x y, ty, pos, aft, g⟩ :: os) F B evs K := by
  refine Run.pure d [(x, vL k es), (y, vV (.int κ' i))] _ hg rfl hd ⟨hx, hy, trivial⟩ ?_ h
  intro G ν ρ w _ hr
  have ey := rep_v hr.2.1
  have hlt : i.toNat < es.length := (List.getElem?_eq_some_iff.1 hc).1
  have hne : es ≠ [] := by intro h; rw [h] at hlt; simp at hlt
  have hlen : c.length = k ∧ ∃ a cap, ρ x = .slice a es.length cap ∧ ∃ blk off, a = some ⟨blk, off, none⟩ ∧ ∀ (j : Nat) (p : PC), c[j]? = some p → ∃ u, (G blk)[off + i.toNat * k + j]? = some u ∧ RepP G p u := by
    have hx' := hr.1
    simp only [RepV, RepS, RepC] at hx'
    generalize ρ x = v at hx'
    cases hx' with
    | sl blk off u hcap hk ha hgu hru =>
      have hck : c.length = k := hk c (List.mem_of_getElem? hc)
      refine ⟨hck, _, _, rfl, blk, off, ha hne, fun j p hj => ?_⟩
      have hjk : j < k := by rw [← hck]; exact (List.getElem?_eq_some_iff.1 hj).1
      refine ⟨u (i.toNat * k + j), ?_, hru i.toNat j p (by simp [hc, hj])⟩
      have := hgu (i.toNat * k + j) (by
        have : (i.toNat + 1) * k ≤ es.length * k := Nat.mul_le_mul_right k hlt
        rw [Nat.add_mul] at this; omega)
      rwa [Nat.add_assoc]
  obtain ⟨_, a, cap, ex, blk, off, rfl, hc'⟩ := hlen
  refine ⟨.pointer (some ⟨blk, off + i.toNat * k, none⟩), ?_, blk, off + i.toNat * k, rfl, hc'⟩
  have hin : 0 ≤ i ∧ i < (es.length : Int) := ⟨h0, by omega⟩
  simp [execOp, ex, ey, Instr.indexAt, asIntOf, Sem.run_bind, run_underlying hu, Result.andThen, hin, hs, addr_add, Sem.run, Pure.pure]

theorem R.idxHot {κ k n' e : Nat} {κ' : IntKind} {i : Int} (hu : P.underlying t = some (.slice e)) (hs : ∀ w, (sizeOf e).run P w = .ok k w)
    (hg : GOk ops F ⟨some d, .indexAddr t x y, ty, pos, aft, g⟩ false) (hd : Nat.blt d n = true) (hx : ov F.fn x = some (vC (.hs κ n'))) (hy : ov F.fn y = some (vV (.int κ' i)))
    (h0 : 0 ≤ i) (h1 : i < n')
    (h : Run P ops n os ((d, vC (.el κ k i.toNat 0)) :: F) B (evs ++ [ev0 ⟨some d, .indexAddr t x y, ty, pos, aft, g⟩ [(x, vC (.hs κ n')), (y, vV (.int κ' i))] (vC (.el κ k i.toNat 0))]) K) :
    Run P ops n (⟨some d, .indexAddr t x y, ty, pos, aft, g⟩ :: os) F B evs K := by
  refine Run.pure d [(x, vC (.hs κ n')), (y, vV (.int κ' i))] _ hg rfl hd ⟨hx, hy, trivial⟩ ?_ h
  intro G ν ρ w _ hr
  have ey := rep_v hr.2.1
  obtain ⟨a, ex, hn, ha⟩ := hr.1
  have ha' := ha (by omega)
  subst ha'
  refine ⟨.pointer (some ⟨(ν κ).1, i.toNat * k, none⟩), ?_, rfl⟩
  simp [execOp, ex, ey, Instr.indexAt, asIntOf, Sem.run_bind, run_underlying hu, Result.andThen, h0, h1, hs, addr_add, Sem.run, Pure.pure]

/-- an array behind a pointer into a box -/
theorem R.idxArr {κ off len k e : Nat} {κ' : IntKind} {i : Int} (hu : P.underlying t = some (.array len e)) (hs : ∀ w, (sizeOf e).run P w = .ok k w)
    (hg : GOk ops F ⟨some d, .indexAddr t x y, ty, pos, aft, g⟩ false) (hd : Nat.blt d n = true) (hx : ov F.fn x = some (vC (.ptr κ off))) (hy : ov F.fn y = some (vV (.int κ' i)))
    (h0 : 0 ≤ i) (h1 : i < len)
    (h : Run P ops n os ((d, vC (.ptr κ (off + i.toNat * k))) :: F) B (evs ++ [ev0 ⟨some d, .indexAddr t x y, ty, pos, aft, g⟩ [(x, vC (.ptr κ off)), (y, vV (.int κ' i))] (vC (.ptr κ (off + i.toNat * k)))]) K) :
    Run P ops n (⟨some d, .indexAddr t x y, ty, pos, aft, g⟩ :: os) F B evs K := by
  refine Run.pure d [(x, vC (.ptr κ off)), (y, vV (.int κ' i))] _ hg rfl hd ⟨hx, hy, trivial⟩ ?_ h
  intro G ν ρ w _ hr
  have ey := rep_v hr.2.1
  have ex := hr.1
  simp only [RepV, RepS, RepC] at ex
  refine ⟨.pointer (some ⟨(ν κ).1, off + i.toNat * k, none⟩), ?_, rfl⟩
  simp [execOp, ex, ey, Instr.indexAt, asIntOf, Sem.run_bind, run_underlying hu, Result.andThen, h0, h1, hs, addr_add, run_sureAddr, Sem.run, Pure.pure]

theorem R.idxArrAt {cs : List PC} {len k e : Nat} {κ' : IntKind} {i : Int} (hu : P.underlying t = some (.array len e)) (hs : ∀ w, (sizeOf e).run P w = .ok k w)
    (hg : GOk ops F ⟨some d, .indexAddr t x y, ty, pos, aft, g⟩ false) (hd : Nat.blt d n = true) (hx : ov F.fn x = some (vC (.at_ cs))) (hy : ov F.fn y = some (vV (.int κ' i)))
    (h0 : 0 ≤ i) (h1 : i < len)
    (h : Run P ops n os ((d, vC (.at_ (cs.drop (i.toNat * k)))) :: F) B (evs ++ [ev0 ⟨some d, .indexAddr t x y, ty, pos, aft, g⟩ [(x, vC (.at_ cs)), (y, vV (.int κ' i))] (vC (.at_ (cs.drop (i.toNat * k))))]) K) :
    Run P ops n (⟨some d, .indexAddr t x y, ty, pos, aft, g⟩ :: os) F B evs K := by
  refine Run.pure d [(x, vC (.at_ cs)), (y, vV (.int κ' i))] _ hg rfl hd ⟨hx, hy, trivial⟩ ?_ h
  intro G ν ρ w _ hr
  have ey := rep_v hr.2.1
  obtain ⟨blk, off, ex, hc⟩ := hr.1
  refine ⟨.pointer (some ⟨blk, off + i.toNat * k, none⟩), ?_, rep_at_drop (ν := ν) hc⟩
  simp [execOp, ex, ey, Instr.indexAt, asIntOf, Sem.run_bind, run_underlying hu, Result.andThen, h0, h1, hs, addr_add, run_sureAddr, Sem.run, Pure.pure]

/-! ### loads -/
theorem run_loadVarA {w : World} {m blk off : Nat} {us : List Value} (ha : ∀ w, (isAgg t).run P w = .ok true w) (hs : ∀ w, (sizeOf t).run P w = .ok m w) (hm : us.length = m)
    (h : ∀ (j : Nat) (u : Value), us[j]? = some u → w.cell? ⟨blk, off + j, none⟩ = some u) : (loadVar t ⟨blk, off, none⟩).run P w = .ok (.agg us.toArray) w := by
  subst hm
  simp [loadVar, Sem.run_bind, ha, hs, Result.andThen, run_loadCells h, Sem.run, Pure.pure]
theorem run_loadVar1 {w : World} {a : Addr} {u : Value} (ha : ∀ w, (isAgg t).run P w = .ok false w) (h : w.cell? a = some u) : (loadVar t a).run P w = .ok u w := by
  simp [loadVar, Sem.run_bind, ha, Result.andThen, run_load h]

/-- cells that are told, as a list of values -/
theorem cells_of {G : Frz} (get : Nat → Option Value) : ∀ (cs : List PC) (o : Nat), (∀ (j : Nat) (c : PC), cs[j]? = some c → ∃ u, get (o + j) = some u ∧ RepP G c u) →
    ∃ us : List Value, All2 (RepP G) cs us ∧ ∀ (j : Nat) (u : Value), us[j]? = some u → get (o + j) = some u := by
  intro cs
  induction cs with
  | nil => intro o _; exact ⟨[], trivial, by simp⟩
  | cons c cs ih =>
    intro o h
    obtain ⟨u, h1, h2⟩ := h 0 c rfl
    obtain ⟨us, h3, h4⟩ := ih (o + 1) (fun j c hj => by
      obtain ⟨u, h5, h6⟩ := h (j + 1) c (by simpa using hj)
      exact ⟨u, by rwa [show o + 1 + j = o + (j + 1) from by omega], h6⟩)
    refine ⟨u :: us, ⟨h2, h3⟩, fun j x hj => ?_⟩
    cases j with
    | zero => simp at hj; subst hj; exact h1
    | succ j => have := h4 j x (by simpa using hj); rwa [show o + (j + 1) = o + 1 + j from by omega]

theorem R.ldAtA {cs : List PC} {m : Nat} (ha : ∀ w, (isAgg t).run P w = .ok true w) (hs : ∀ w, (sizeOf t).run P w = .ok m w)
    (hg : GOk ops F ⟨some d, .load t x, ty, pos, aft, g⟩ false) (hd : Nat.blt d n = true) (hx : ov F.fn x = some (vC (.at_ cs))) (hm : m ≤ cs.length)
    (h : Run P ops n os ((d, vA (cs.take m)) :: F) B (evs ++ [ev0 ⟨some d, .load t x, ty, pos, aft, g⟩ [(x, vC (.at_ cs))] (vA (cs.take m))]) K) :
    Run P ops n (⟨some d, .load t x, ty, pos, aft, g⟩ :: os) F B evs K := by
  refine Run.pure d [(x, vC (.at_ cs))] _ hg rfl hd ⟨hx, trivial⟩ ?_ h
  intro G ν ρ w hS hr
  obtain ⟨blk, off, ex, hc⟩ := hr.1
  obtain ⟨us, h1, h2⟩ := cells_of (G := G) (fun i => (G blk)[i]?) cs off hc
  have hl := h1.len
  refine ⟨.agg (us.take m).toArray, ?_, (us.take m).toArray, rfl, by simpa using h1.take m⟩
  have hrun := run_loadVarA (P := P) (t := t) (w := w) (blk := blk) (off := off) (us := us.take m) ha hs (by simp; omega) (fun j u hj => by
    rw [List.getElem?_take] at hj
    split at hj
    · exact hS.cell (h2 j u hj)
    · cases hj)
  simp [execOp, ex, Instr.loadAt, run_sureAddr, Sem.run_bind, Result.andThen, hrun, Sem.run, Pure.pure]

theorem R.ldAt1 {cs : List PC} {c : PC} (ha : ∀ w, (isAgg t).run P w = .ok false w)
    (hg : GOk ops F ⟨some d, .load t x, ty, pos, aft, g⟩ false) (hd : Nat.blt d n = true) (hx : ov F.fn x = some (vC (.at_ cs))) (hc0 : cs[0]? = some c)
    (h : Run P ops n os ((d, vP c) :: F) B (evs ++ [ev0 ⟨some d, .load t x, ty, pos, aft, g⟩ [(x, vC (.at_ cs))] (vP c)]) K) :
    Run P ops n (⟨some d, .load t x, ty, pos, aft, g⟩ :: os) F B evs K := by
  refine Run.pure d [(x, vC (.at_ cs))] _ hg rfl hd ⟨hx, trivial⟩ ?_ h
  intro G ν ρ w hS hr
  obtain ⟨blk, off, ex, hc⟩ := hr.1
  obtain ⟨u, h1, h2⟩ := hc 0 c hc0
  refine ⟨u, ?_, h2⟩
  have hrun := run_loadVar1 (P := P) (t := t) (w := w) (a := ⟨blk, off, none⟩) ha (hS.cell h1)
  simp [execOp, ex, Instr.loadAt, run_sureAddr, Sem.run_bind, Result.andThen, hrun, Sem.run, Pure.pure]

/-- what only reads one object -/
theorem Run.look {o : Oper} (d : Nat) (xs : List (Operand × AV)) (κ : Key) (ao : AO) (out : AV)
    (hg : GOk ops F o false) (hdst : o.dst = some d) (hd : Nat.blt d n = true) (hx : OvAll F.fn xs) (hb : B.fn κ = some ao)
    (ht : ∀ G ν (ρ : Operand → Value) w, Sat G w → RepAll G ν ρ xs → SatO G ν w κ ao → ∃ v, (execOp ρ o).run P w = .ok (.value v) w ∧ RepV G ν out v)
    (h : Run P ops n os ((d, out) :: F) B (evs ++ [⟨o, false, opFs xs, [(κ, some ao)], out, [(κ, some ao)], [], true⟩]) K) :
    Run P ops n (o :: os) F B evs K := by
  refine Run.op xs (B1 κ ao) (B1 κ ao) out [] true hg (fun d' h' => by rw [hdst] at h'; cases h'; simpa using hd) hx
    (fun κ' x h => by obtain ⟨rfl, rfl⟩ := B1_fn h; exact hb) (fun κ' x h => by obtain ⟨rfl, rfl⟩ := B1_fn h; simp [B1, BL.dom])
    (fun _ κ' hκ => by simp [B1, BL.dom] at hκ; subst hκ; rw [B1_self, hb]) ?_ ?_
  · intro G ν a w hS hr hB
    obtain ⟨v, hrun, hv⟩ := ht G ν a.eval w hS hr (hB.obj κ ao (B1_self κ ao))
    unfold Oper.wp
    rw [hrun]
    exact ⟨G, ν, v, rfl, hv, hS, hB, Keep.refl _ _ _, fun _ _ => rfl, fun κ' o h hl => Or.inl ⟨κ', o, h, hl, rfl⟩⟩
  · simpa [Ev.F, Ev.B, hdst, B1] using h

theorem cell_of_blk {w : World} {blk i : Nat} {us : Array Value} {e : TypeId} {fr : Nat × Nat} {v : Value} (hb : w.heap[blk]? = some (.cells us e fr)) (h : us[i]? = some v) :
    w.cell? ⟨blk, i, none⟩ = some v := by simp [World.cell?, hb, h]

theorem R.ldPA {κ off m : Nat} {cs : List PC} (ha : ∀ w, (isAgg t).run P w = .ok true w) (hs : ∀ w, (sizeOf t).run P w = .ok m w)
    (hg : GOk ops F ⟨some d, .load t x, ty, pos, aft, g⟩ false) (hd : Nat.blt d n = true) (hx : ov F.fn x = some (vC (.ptr κ off))) (hb : B.fn κ = some (.pbox cs)) (hm : m ≤ (cs.drop off).length)
    (h : Run P ops n os ((d, vA ((cs.drop off).take m)) :: F) B (evs ++ [⟨⟨some d, .load t x, ty, pos, aft, g⟩, false, opFs [(x, vC (.ptr κ off))], [(κ, some (.pbox cs))], vA ((cs.drop off).take m), [(κ, some (.pbox cs))], [], true⟩]) K) :
    Run P ops n (⟨some d, .load t x, ty, pos, aft, g⟩ :: os) F B evs K := by
  refine Run.look d [(x, vC (.ptr κ off))] κ (.pbox cs) _ hg rfl hd ⟨hx, trivial⟩ hb ?_ h
  intro G ν ρ w hS hr hO
  have ex := hr.1
  simp only [RepV, RepS, RepC] at ex
  obtain ⟨us, e, hbk, hu⟩ := hO
  have h2 := (hu.drop off).take m
  refine ⟨.agg ((us.toList.drop off).take m).toArray, ?_, _, rfl, by simpa using h2⟩
  have hl := (hu.drop off).len
  have hrun := run_loadVarA (P := P) (t := t) (w := w) (blk := (ν κ).1) (off := off) (us := (us.toList.drop off).take m) ha hs (by rw [List.length_take]; omega) (fun j u hj => by
    rw [List.getElem?_take] at hj
    split at hj
    · rw [List.getElem?_drop] at hj
      exact cell_of_blk hbk (by simpa using hj)
    · cases hj)
  simp only [execOp, ex, Instr.loadAt]
  simp [run_sureAddr, Sem.run_bind, Result.andThen, hrun, Sem.run, Pure.pure]

theorem R.ldP1 {κ off : Nat} {cs : List PC} {c : PC} (ha : ∀ w, (isAgg t).run P w = .ok false w)
    (hg : GOk ops F ⟨some d, .load t x, ty, pos, aft, g⟩ false) (hd : Nat.blt d n = true) (hx : ov F.fn x = some (vC (.ptr κ off))) (hb : B.fn κ = some (.pbox cs)) (hc : cs[off]? = some c)
    (h : Run P ops n os ((d, vP c) :: F) B (evs ++ [⟨⟨some d, .load t x, ty, pos, aft, g⟩, false, opFs [(x, vC (.ptr κ off))], [(κ, some (.pbox cs))], vP c, [(κ, some (.pbox cs))], [], true⟩]) K) :
    Run P ops n (⟨some d, .load t x, ty, pos, aft, g⟩ :: os) F B evs K := by
  refine Run.look d [(x, vC (.ptr κ off))] κ (.pbox cs) _ hg rfl hd ⟨hx, trivial⟩ hb ?_ h
  intro G ν ρ w hS hr hO
  have ex := hr.1
  simp only [RepV, RepS, RepC] at ex
  obtain ⟨us, e, hbk, hu⟩ := hO
  obtain ⟨v, h1, h2⟩ := hu.get off c hc
  refine ⟨v, ?_, h2⟩
  have hrun := run_loadVar1 (P := P) (t := t) (w := w) (a := ⟨(ν κ).1, off, none⟩) ha (cell_of_blk hbk (by simpa using h1))
  simp only [execOp, ex, Instr.loadAt]
  simp [run_sureAddr, Sem.run_bind, Result.andThen, hrun, Sem.run, Pure.pure]

theorem R.ldBA {κ off m : Nat} {cs : List AC} (ha : ∀ w, (isAgg t).run P w = .ok true w) (hs : ∀ w, (sizeOf t).run P w = .ok m w)
    (hg : GOk ops F ⟨some d, .load t x, ty, pos, aft, g⟩ false) (hd : Nat.blt d n = true) (hx : ov F.fn x = some (vC (.ptr κ off))) (hb : B.fn κ = some (.box cs)) (hm : m ≤ (cs.drop off).length)
    (h : Run P ops n os ((d, .s (.agg ((cs.drop off).take m))) :: F) B (evs ++ [⟨⟨some d, .load t x, ty, pos, aft, g⟩, false, opFs [(x, vC (.ptr κ off))], [(κ, some (.box cs))], .s (.agg ((cs.drop off).take m)), [(κ, some (.box cs))], [], true⟩]) K) :
    Run P ops n (⟨some d, .load t x, ty, pos, aft, g⟩ :: os) F B evs K := by
  refine Run.look d [(x, vC (.ptr κ off))] κ (.box cs) _ hg rfl hd ⟨hx, trivial⟩ hb ?_ h
  intro G ν ρ w hS hr hO
  have ex := hr.1
  simp only [RepV, RepS, RepC] at ex
  obtain ⟨us, e, hbk, hu⟩ := hO
  have h2 := (hu.drop off).take m
  refine ⟨.agg ((us.toList.drop off).take m).toArray, ?_, _, rfl, by simpa using h2⟩
  have hl := (hu.drop off).len
  have hrun := run_loadVarA (P := P) (t := t) (w := w) (blk := (ν κ).1) (off := off) (us := (us.toList.drop off).take m) ha hs (by rw [List.length_take]; omega) (fun j u hj => by
    rw [List.getElem?_take] at hj
    split at hj
    · rw [List.getElem?_drop] at hj
      exact cell_of_blk hbk (by simpa using hj)
    · cases hj)
  simp only [execOp, ex, Instr.loadAt]
  simp [run_sureAddr, Sem.run_bind, Result.andThen, hrun, Sem.run, Pure.pure]

theorem R.ldB1 {κ off : Nat} {cs : List AC} {c : AC} (ha : ∀ w, (isAgg t).run P w = .ok false w)
    (hg : GOk ops F ⟨some d, .load t x, ty, pos, aft, g⟩ false) (hd : Nat.blt d n = true) (hx : ov F.fn x = some (vC (.ptr κ off))) (hb : B.fn κ = some (.box cs)) (hc : cs[off]? = some c)
    (h : Run P ops n os ((d, vC c) :: F) B (evs ++ [⟨⟨some d, .load t x, ty, pos, aft, g⟩, false, opFs [(x, vC (.ptr κ off))], [(κ, some (.box cs))], vC c, [(κ, some (.box cs))], [], true⟩]) K) :
    Run P ops n (⟨some d, .load t x, ty, pos, aft, g⟩ :: os) F B evs K := by
  refine Run.look d [(x, vC (.ptr κ off))] κ (.box cs) _ hg rfl hd ⟨hx, trivial⟩ hb ?_ h
  intro G ν ρ w hS hr hO
  have ex := hr.1
  simp only [RepV, RepS, RepC] at ex
  obtain ⟨us, e, hbk, hu⟩ := hO
  obtain ⟨v, h1, h2⟩ := hu.get off c hc
  refine ⟨v, ?_, h2⟩
  have hrun := run_loadVar1 (P := P) (t := t) (w := w) (a := ⟨(ν κ).1, off, none⟩) ha (cell_of_blk hbk (by simpa using h1))
  simp only [execOp, ex, Instr.loadAt]
  simp [run_sureAddr, Sem.run_bind, Result.andThen, hrun, Sem.run, Pure.pure]

/-- an element of an owned row -/
theorem R.ldElA {κ k i j m : Nat} {es : List (List PC)} {c : List PC} (ha : ∀ w, (isAgg t).run P w = .ok true w) (hs : ∀ w, (sizeOf t).run P w = .ok m w)
    (hg : GOk ops F ⟨some d, .load t x, ty, pos, aft, g⟩ false) (hd : Nat.blt d n = true) (hx : ov F.fn x = some (vC (.el κ k i j))) (hb : B.fn κ = some (.hot k es)) (hc : es[i]? = some c) (hm : m ≤ (c.drop j).length)
    (h : Run P ops n os ((d, vA ((c.drop j).take m)) :: F) B (evs ++ [⟨⟨some d, .load t x, ty, pos, aft, g⟩, false, opFs [(x, vC (.el κ k i j))], [(κ, some (.hot k es))], vA ((c.drop j).take m), [(κ, some (.hot k es))], [], true⟩]) K) :
    Run P ops n (⟨some d, .load t x, ty, pos, aft, g⟩ :: os) F B evs K := by
  refine Run.look d [(x, vC (.el κ k i j))] κ (.hot k es) _ hg rfl hd ⟨hx, trivial⟩ hb ?_ h
  intro G ν ρ w hS hr hO
  have ex := hr.1
  simp only [RepV, RepS, RepC] at ex
  obtain ⟨h1, _, h3⟩ := hO
  have hi : i < es.length := (List.getElem?_eq_some_iff.1 hc).1
  obtain ⟨us, e, hbk, _, hu⟩ := h3 (by omega)
  obtain ⟨vs, g1, g2⟩ := cells_of (G := G) (fun r => us[r]?) (c.drop j) (i * k + j) (fun r p hp => by
    obtain ⟨v, q1, q2⟩ := hu i (j + r) p (by rw [List.getElem?_drop] at hp; simp [hc, hp])
    exact ⟨v, by rwa [Nat.add_assoc], q2⟩)
  have hl := g1.len
  refine ⟨.agg (vs.take m).toArray, ?_, _, rfl, by simpa using g1.take m⟩
  have hrun := run_loadVarA (P := P) (t := t) (w := w) (blk := (ν κ).1) (off := i * k + j) (us := vs.take m) ha hs (by rw [List.length_take]; omega) (fun r u hj => by
    rw [List.getElem?_take] at hj
    split at hj
    · exact cell_of_blk hbk (g2 r u hj)
    · cases hj)
  simp only [execOp, ex, Instr.loadAt]
  simp [run_sureAddr, Sem.run_bind, Result.andThen, hrun, Sem.run, Pure.pure]

theorem R.ldEl1 {κ k i j : Nat} {es : List (List PC)} {c : PC} (ha : ∀ w, (isAgg t).run P w = .ok false w)
    (hg : GOk ops F ⟨some d, .load t x, ty, pos, aft, g⟩ false) (hd : Nat.blt d n = true) (hx : ov F.fn x = some (vC (.el κ k i j))) (hb : B.fn κ = some (.hot k es)) (hc : (es[i]?).bind (·[j]?) = some c)
    (h : Run P ops n os ((d, vP c) :: F) B (evs ++ [⟨⟨some d, .load t x, ty, pos, aft, g⟩, false, opFs [(x, vC (.el κ k i j))], [(κ, some (.hot k es))], vP c, [(κ, some (.hot k es))], [], true⟩]) K) :
    Run P ops n (⟨some d, .load t x, ty, pos, aft, g⟩ :: os) F B evs K := by
  refine Run.look d [(x, vC (.el κ k i j))] κ (.hot k es) _ hg rfl hd ⟨hx, trivial⟩ hb ?_ h
  intro G ν ρ w hS hr hO
  have ex := hr.1
  simp only [RepV, RepS, RepC] at ex
  obtain ⟨h1, _, h3⟩ := hO
  have hi : i < es.length := by
    cases h : es[i]? with
    | none => rw [h] at hc; simp at hc
    | some _ => exact (List.getElem?_eq_some_iff.1 h).1
  obtain ⟨us, e, hbk, _, hu⟩ := h3 (by omega)
  obtain ⟨v, q1, q2⟩ := hu i j c hc
  refine ⟨v, ?_, q2⟩
  have hrun := run_loadVar1 (P := P) (t := t) (w := w) (a := ⟨(ν κ).1, i * k + j, none⟩) ha (cell_of_blk hbk q1)
  simp only [execOp, ex, Instr.loadAt]
  simp [run_sureAddr, Sem.run_bind, Result.andThen, hrun, Sem.run, Pure.pure]

end
end Go.Abs
