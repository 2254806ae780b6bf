/-
  Rules: stores, slices, structs, lengths.
-/
import Derived.Test.YtfaepfnjilgioaaDoorScA10
set_option linter.all false
set_option linter.unusedSimpArgs false
set_option linter.unusedVariables false
namespace Go.Abs
open Go

section
variable {P : Program} {ops : Array Oper} {n : Nat} {os : List Oper} {F : Facts} {B : BL} {evs : List Ev} {K : FF → BF → List Ev → Prop}
variable {d t u ty : Nat} {x y z : Operand} {pos : String} {aft : Array Edge} {g : Option (Nat × Bool)}

/-- what writes one object, and yields nothing -/
theorem Run.write {o : Oper} (xs : List (Operand × AV)) (κ : Key) (ao ao' : AO)
    (hg : GOk ops F o false) (hdst : o.dst = none) (hx : OvAll F.fn xs) (hb : B.fn κ = some ao) (hl : ∀ ν, ao.lives ν κ → ao'.lives ν κ) (hl' : ∀ ν, ao'.lives ν κ → ao.lives ν κ)
    (ht : ∀ G ν (ρ : Operand → Value) w, Sat G w → RepAll G ν ρ xs → SatO G ν w κ ao → ∃ ob, ao.lives ν κ ∧ (execOp ρ o).run P w = .ok .skip (putBlk w (ν κ).1 ob) ∧
      (∀ w', w'.heap[(ν κ).1]? = some ob → SatO G ν w' κ ao'))
    (h : Run P ops n os F ((κ, some ao') :: B) (evs ++ [⟨o, false, opFs xs, [(κ, some ao)], .any, [(κ, some ao')], [], false⟩]) K) (hfx : ao.fixed = false := by rfl) :
    Run P ops n (o :: os) F B evs K := by
  refine Run.op xs (B1 κ ao) (B1 κ ao') .any [] false hg (fun d' h' => by rw [hdst] at h'; cases h') hx
    (fun κ' x h => by obtain ⟨rfl, rfl⟩ := B1_fn h; exact hb) (fun κ' x h => by obtain ⟨rfl, rfl⟩ := B1_fn h; simp [B1, BL.dom])
    (fun h => by cases h) ?_ ?_
  · intro G ν a w hS hr hB
    obtain ⟨ob, hlv, hrun, hv⟩ := ht G ν a.eval w hS hr (hB.obj κ ao (B1_self κ ao))
    have hlt := hB.lt κ ao (B1_self κ ao) hlv
    have hfr := hB.free κ ao (B1_self κ ao) hfx hlv
    unfold Oper.wp
    rw [hrun]
    refine ⟨G, ν, undef, rfl, trivial, hS.put hfr hlt ob, B1_sat (hv _ (by rw [putBlk_get hlt]; simp)) (fun _ => hfr) (fun _ => by simpa [putBlk] using hlt),
      Keep.put ⟨κ, ao, B1_self κ ao, hlv, rfl⟩ hlt ob, fun _ _ => rfl, fun κ' o h hl2 => ?_⟩
    obtain ⟨rfl, rfl⟩ := B1_fn h
    exact Or.inl ⟨κ', ao, B1_self κ' ao, hl' ν hl2, rfl⟩
  · simpa [Ev.F, Ev.B, hdst, B1] using h

theorem run_storeVar {w : World} {m blk off : Nat} {us : Array Value} {e : TypeId} {v : Value} (hs : ∀ w, (sizeOf t).run P w = .ok m w) (hm : v.cells.size = m)
    (hb : w.heap[blk]? = some (.cells us e (0, 0))) (hl : off + m ≤ us.size) (hc : ∀ x ∈ v.cells.toList, isCell x = true) :
    (storeVar t ⟨blk, off, none⟩ v).run P w = .ok () (putBlk w blk (.cells (spl us off v.cells.toList) e (0, 0))) := by
  have h := run_storeCells (P := P) (blk := blk) (off := off) v.cells.toList 0 w us hb (by simp; omega) hc
  simp [storeVar, Sem.run_bind, hs, Result.andThen, hm, h]

/-- cells of a list replaced -/
def lspl {α : Type} (l : List α) (o : Nat) (vs : List α) : List α := l.take o ++ vs ++ l.drop (o + vs.length)

theorem All2.lspl {α β : Type} {R : α → β → Prop} {as cs : List α} {bs ds : List β} (h : All2 R as bs) (h' : All2 R cs ds) (o : Nat) : All2 R (Go.Abs.lspl as o cs) (Go.Abs.lspl bs o ds) := by
  unfold Go.Abs.lspl
  rw [h'.len]
  exact ((h.take o).append h').append (h.drop _)

theorem R.stP {κ off m : Nat} {cs : List PC} {v : SV} (hs : ∀ w, (sizeOf t).run P w = .ok m w)
    (hg : GOk ops F ⟨none, .store t x y, ty, pos, aft, g⟩ false) (hx : ov F.fn x = some (vC (.ptr κ off))) (hy : ov F.fn y = some (.s v)) (hp : v.plain = true)
    (hb : B.fn κ = some (.pbox cs)) (hm : v.pcs.length = m) (hl : off + m ≤ cs.length)
    (h : Run P ops n os F ((κ, some (.pbox (lspl cs off v.pcs))) :: B) (evs ++ [⟨⟨none, .store t x y, ty, pos, aft, g⟩, false, opFs [(x, vC (.ptr κ off)), (y, .s v)], [(κ, some (.pbox cs))], .any, [(κ, some (.pbox (lspl cs off v.pcs)))], [], false⟩]) K) :
    Run P ops n (⟨none, .store t x y, ty, pos, aft, g⟩ :: os) F B evs K := by
  refine Run.write [(x, vC (.ptr κ off)), (y, .s v)] κ (.pbox cs) (.pbox (lspl cs off v.pcs)) hg rfl ⟨hx, hy, trivial⟩ hb (fun _ _ => trivial) (fun _ _ => trivial) ?_ h
  intro G ν ρ w hS hr hO
  have ex := hr.1
  simp only [RepV, RepS, RepC] at ex
  have hv := rep_pcs hp (show RepS G ν v (ρ y) from hr.2.1)
  obtain ⟨us, e, hbk, hu⟩ := hO
  have hlen := hu.len
  have hvl := hv.len
  simp only [Array.length_toList] at hvl hlen
  have hrun := run_storeVar (P := P) (t := t) (w := w) (m := m) (blk := (ν κ).1) (off := off) (v := ρ y) hs (by omega) hbk (by omega) hv.cell
  refine ⟨.cells (spl us off (ρ y).cells.toList) e (0, 0), trivial, ?_, fun w' hw => ⟨_, e, hw, ?_⟩⟩
  · simp only [execOp, ex, Instr.storeAt]
    simp [run_sureAddr, Sem.run_bind, Result.andThen, hrun, Sem.run, Pure.pure]
  · rw [spl_toList _ _ _ (by simp; omega)]
    exact hu.lspl hv off

theorem R.stB {κ off m : Nat} {cs : List AC} {v : SV} (hs : ∀ w, (sizeOf t).run P w = .ok m w)
    (hg : GOk ops F ⟨none, .store t x y, ty, pos, aft, g⟩ false) (hx : ov F.fn x = some (vC (.ptr κ off))) (hy : ov F.fn y = some (.s v))
    (hb : B.fn κ = some (.box cs)) (hm : v.acs.length = m) (hl : off + m ≤ cs.length)
    (h : Run P ops n os F ((κ, some (.box (lspl cs off v.acs))) :: B) (evs ++ [⟨⟨none, .store t x y, ty, pos, aft, g⟩, false, opFs [(x, vC (.ptr κ off)), (y, .s v)], [(κ, some (.box cs))], .any, [(κ, some (.box (lspl cs off v.acs)))], [], false⟩]) K) :
    Run P ops n (⟨none, .store t x y, ty, pos, aft, g⟩ :: os) F B evs K := by
  refine Run.write [(x, vC (.ptr κ off)), (y, .s v)] κ (.box cs) (.box (lspl cs off v.acs)) hg rfl ⟨hx, hy, trivial⟩ hb (fun _ _ => trivial) (fun _ _ => trivial) ?_ h
  intro G ν ρ w hS hr hO
  have ex := hr.1
  simp only [RepV, RepS, RepC] at ex
  have hv := rep_acs (show RepS G ν v (ρ y) from hr.2.1)
  obtain ⟨us, e, hbk, hu⟩ := hO
  have hlen := hu.len
  have hvl := hv.len
  simp only [Array.length_toList] at hvl hlen
  have hrun := run_storeVar (P := P) (t := t) (w := w) (m := m) (blk := (ν κ).1) (off := off) (v := ρ y) hs (by omega) hbk (by omega) hv.cellC
  refine ⟨.cells (spl us off (ρ y).cells.toList) e (0, 0), trivial, ?_, fun w' hw => ⟨_, e, hw, ?_⟩⟩
  · simp only [execOp, ex, Instr.storeAt]
    simp [run_sureAddr, Sem.run_bind, Result.andThen, hrun, Sem.run, Pure.pure]
  · rw [spl_toList _ _ _ (by simp; omega)]
    exact hu.lspl hv off

/-- a store of whatever value into a box whose cells were plain -/
theorem R.stPB {κ m : Nat} {cs : List PC} {v : SV} (hs : ∀ w, (sizeOf t).run P w = .ok m w)
    (hg : GOk ops F ⟨none, .store t x y, ty, pos, aft, g⟩ false) (hx : ov F.fn x = some (vC (.ptr κ 0))) (hy : ov F.fn y = some (.s v))
    (hb : B.fn κ = some (.pbox cs)) (hm : v.acs.length = m) (hl : cs.length = m)
    (h : Run P ops n os F ((κ, some (.box v.acs)) :: B) (evs ++ [⟨⟨none, .store t x y, ty, pos, aft, g⟩, false, opFs [(x, vC (.ptr κ 0)), (y, .s v)], [(κ, some (.pbox cs))], .any, [(κ, some (.box v.acs))], [], false⟩]) K) :
    Run P ops n (⟨none, .store t x y, ty, pos, aft, g⟩ :: os) F B evs K := by
  refine Run.write [(x, vC (.ptr κ 0)), (y, .s v)] κ (.pbox cs) (.box v.acs) hg rfl ⟨hx, hy, trivial⟩ hb (fun _ _ => trivial) (fun _ _ => trivial) ?_ h
  intro G ν ρ w hS hr hO
  have ex := hr.1
  simp only [RepV, RepS, RepC] at ex
  have hv := rep_acs (show RepS G ν v (ρ y) from hr.2.1)
  obtain ⟨us, e, hbk, hu⟩ := hO
  have hlen := hu.len
  have hvl := hv.len
  simp only [Array.length_toList] at hvl hlen
  have hrun := run_storeVar (P := P) (t := t) (w := w) (m := m) (blk := (ν κ).1) (off := 0) (v := ρ y) hs (by omega) hbk (by omega) hv.cellC
  refine ⟨.cells (spl us 0 (ρ y).cells.toList) e (0, 0), trivial, ?_, fun w' hw => ⟨_, e, hw, ?_⟩⟩
  · simp only [execOp, ex, Instr.storeAt]
    simp [run_sureAddr, Sem.run_bind, Result.andThen, hrun, Sem.run, Pure.pure]
  · rw [spl_toList _ _ _ (by simp; omega)]
    simp only [List.take_zero, List.nil_append]
    have : us.toList.drop (0 + (ρ y).cells.toList.length) = [] := by
      rw [List.drop_eq_nil_iff]; simp; omega
    rw [this, List.append_nil]
    exact hv

/-- an element of an owned row written -/
theorem R.stEl {κ k i j m : Nat} {es : List (List PC)} {c : List PC} {v : SV} (hs : ∀ w, (sizeOf t).run P w = .ok m w)
    (hg : GOk ops F ⟨none, .store t x y, ty, pos, aft, g⟩ false) (hx : ov F.fn x = some (vC (.el κ k i j))) (hy : ov F.fn y = some (.s v)) (hp : v.plain = true)
    (hb : B.fn κ = some (.hot k es)) (hc : es[i]? = some c) (hm : v.pcs.length = m) (hl : j + m ≤ c.length)
    (h : Run P ops n os F ((κ, some (.hot k (es.set i (lspl c j v.pcs)))) :: B) (evs ++ [⟨⟨none, .store t x y, ty, pos, aft, g⟩, false, opFs [(x, vC (.el κ k i j)), (y, .s v)], [(κ, some (.hot k es))], .any, [(κ, some (.hot k (es.set i (lspl c j v.pcs))))], [], false⟩]) K) :
    Run P ops n (⟨none, .store t x y, ty, pos, aft, g⟩ :: os) F B evs K := by
  refine Run.write [(x, vC (.el κ k i j)), (y, .s v)] κ (.hot k es) (.hot k (es.set i (lspl c j v.pcs))) hg rfl ⟨hx, hy, trivial⟩ hb (fun _ h => h) (fun _ h => h) ?_ h
  intro G ν ρ w hS hr hO
  have ex := hr.1
  simp only [RepV, RepS, RepC] at ex
  have hv := rep_pcs hp (show RepS G ν v (ρ y) from hr.2.1)
  obtain ⟨h1, h2, h3⟩ := hO
  have hi : i < es.length := (List.getElem?_eq_some_iff.1 hc).1
  have hck : c.length = k := h2 c (List.mem_of_getElem? hc)
  have hcap : (ν κ).2 ≠ 0 := by omega
  obtain ⟨us, e, hbk, hcu, hu⟩ := h3 hcap
  have hvl := hv.len
  simp only [Array.length_toList] at hvl
  have hik : (i + 1) * k ≤ (ν κ).2 * k := Nat.mul_le_mul_right k (by omega)
  rw [Nat.add_mul, Nat.one_mul] at hik
  have hrun := run_storeVar (P := P) (t := t) (w := w) (m := m) (blk := (ν κ).1) (off := i * k + j) (v := ρ y) hs (by omega) hbk (by omega) hv.cell
  have hpl : (ρ y).cells.toList.length = m := by simp; omega
  have hll : (lspl c j v.pcs).length = k := by simp [lspl]; omega
  refine ⟨.cells (spl us (i * k + j) (ρ y).cells.toList) e (0, 0), hcap, ?_, fun w' hw => ⟨by simpa using h1, ?_, fun _ => ⟨_, e, hw, ?_, ?_⟩⟩⟩
  · simp only [execOp, ex, Instr.storeAt]
    simp [run_sureAddr, Sem.run_bind, Result.andThen, hrun, Sem.run, Pure.pure]
  · intro c' hc'
    rcases List.mem_or_eq_of_mem_set hc' with hm' | hm'
    · exact h2 c' hm'
    · rw [hm', hll]
  · have : (spl us (i * k + j) (ρ y).cells.toList).toList.length = us.size := by
      rw [spl_toList _ _ _ (by omega)]; simp; omega
    simp only [Array.length_toList] at this
    omega
  · have hsp : ∀ q, (spl us (i * k + j) (ρ y).cells.toList)[q]? = if q < i * k + j then us[q]? else if q < i * k + j + m then (ρ y).cells.toList[q - (i * k + j)]? else us[q]? := by
      intro q
      rw [← Array.getElem?_toList, spl_toList _ _ _ (by omega)]
      by_cases q1 : q < i * k + j
      · rw [if_pos q1, List.append_assoc, List.getElem?_append_left (by simp; omega), List.getElem?_take, if_pos q1]; simp
      · rw [if_neg q1, List.append_assoc, List.getElem?_append_right (by simp; omega)]
        have hlt : (us.toList.take (i * k + j)).length = i * k + j := by simp; omega
        rw [hlt]
        by_cases q2 : q < i * k + j + m
        · rw [if_pos q2, List.getElem?_append_left (by omega)]
        · rw [if_neg q2, List.getElem?_append_right (by omega), List.getElem?_drop, hpl]
          rw [show i * k + j + m + (q - (i * k + j) - m) = q from by omega]; simp
    intro i' j' c' hc'
    by_cases hii : i = i'
    · subst hii
      rw [List.getElem?_set_self hi] at hc'
      simp only [Option.bind_some] at hc'
      have hj' : j' < k := by rw [← hll]; exact (List.getElem?_eq_some_iff.1 hc').1
      rw [hsp]
      unfold lspl at hc'
      by_cases q1 : j' < j
      · rw [List.append_assoc, List.getElem?_append_left (by simp; omega), List.getElem?_take, if_pos q1] at hc'
        rw [if_pos (by omega)]
        exact hu i j' c' (by simp [hc, hc'])
      · rw [List.append_assoc, List.getElem?_append_right (by simp; omega)] at hc'
        have hlt : (c.take j).length = j := by simp; omega
        rw [hlt] at hc'
        rw [if_neg (by omega)]
        by_cases q2 : j' < j + m
        · rw [List.getElem?_append_left (by omega)] at hc'
          rw [if_pos (by omega)]
          obtain ⟨uu, g1, g2⟩ := hv.get _ _ hc'
          exact ⟨uu, by rw [show i * k + j' - (i * k + j) = j' - j from by omega]; exact g1, g2⟩
        · rw [List.getElem?_append_right (by omega), List.getElem?_drop, hm, show j + m + (j' - j - m) = j' from by omega] at hc'
          rw [if_neg (by omega)]
          exact hu i j' c' (by simp [hc, hc'])
    · rw [List.getElem?_set_ne hii] at hc'
      obtain ⟨uu, g1, g2⟩ := hu i' j' c' hc'
      refine ⟨uu, ?_, g2⟩
      have hi' : i' < es.length := by
        cases h : es[i']? with
        | none => rw [h] at hc'; simp at hc'
        | some _ => exact (List.getElem?_eq_some_iff.1 h).1
      have hj' : j' < k := by
        cases h : es[i']? with
        | none => rw [h] at hc'; simp at hc'
        | some q =>
          rw [h] at hc'; simp only [Option.bind_some] at hc'
          rw [← h2 q (List.mem_of_getElem? h)]; exact (List.getElem?_eq_some_iff.1 hc').1
      rw [hsp]
      rcases Nat.lt_or_gt_of_ne hii with hlt | hgt
      · -- i < i'
        have : (i + 1) * k ≤ i' * k := Nat.mul_le_mul_right k hlt
        rw [Nat.add_mul, Nat.one_mul] at this
        rw [if_neg (by omega), if_neg (by omega)]; exact g1
      · have : (i' + 1) * k ≤ i * k := Nat.mul_le_mul_right k hgt
        rw [Nat.add_mul, Nat.one_mul] at this
        rw [if_pos (by omega)]; exact g1

end
end Go.Abs
