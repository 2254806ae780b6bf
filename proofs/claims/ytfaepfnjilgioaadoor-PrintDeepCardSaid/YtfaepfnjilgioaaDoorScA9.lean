/-
  Memory: runs of loads and stores, and the local laws of boxes.
-/
import Derived.Test.YtfaepfnjilgioaaDoorScA8
set_option linter.all false
set_option linter.unusedSimpArgs false
set_option linter.unusedVariables false
namespace Go.Abs
open Go

theorem addr_add (blk off n : Nat) : (⟨blk, off, none⟩ : Addr).add n = ⟨blk, off + n, none⟩ := by
  unfold Addr.add; split
  · rename_i h; subst h; rfl
  · rfl

theorem run_load {P : Program} {w : World} {a : Addr} {v : Value} (h : w.cell? a = some v) : (load a).run P w = .ok v w := by
  simp [load, Sem.run, h]

theorem run_loadCells {P : Program} {w : World} {blk off : Nat} {us : List Value} (h : ∀ (j : Nat) (u : Value), us[j]? = some u → w.cell? ⟨blk, off + j, none⟩ = some u) :
    (loadCells ⟨blk, off, none⟩ us.length).run P w = .ok us.toArray w := by
  unfold loadCells
  suffices H : ∀ (us : List Value) (i : Nat) (acc : Array Value), (∀ (j : Nat) (u : Value), us[j]? = some u → w.cell? ⟨blk, off + (i + j), none⟩ = some u) →
      (loadCellsFrom ⟨blk, off, none⟩ i us.length acc).run P w = .ok (acc ++ us.toArray) w by
    have := H us 0 #[] (by simpa using h)
    simpa using this
  intro us
  induction us with
  | nil => intro i acc _; simp [loadCellsFrom, Pure.pure]
  | cons u us ih =>
    intro i acc h
    simp only [List.length_cons, loadCellsFrom]
    have h0 := h 0 u rfl
    rw [Sem.run_bind, addr_add, run_load (by simpa using h0)]
    simp only [Result.andThen]
    rw [ih (i + 1) (acc.push u) (fun j x hx => by have := h (j + 1) x (by simpa using hx); rwa [show i + 1 + j = i + (j + 1) from by omega])]
    simp

/-- a block's object replaced -/
def putBlk (w : World) (b : Nat) (o : Obj) : World := { w with heap := w.heap.setIfInBounds b o }

theorem putBlk_get {w : World} {b : Nat} {o : Obj} (hb : b < w.heap.size) (r : Nat) : (putBlk w b o).heap[r]? = if r = b then some o else w.heap[r]? := by
  unfold putBlk
  simp only
  by_cases h : b = r
  · subst h; simp [hb]
  · rw [Array.getElem?_setIfInBounds_ne h, if_neg (fun e => h e.symm)]

theorem putBlk_put {w : World} {b : Nat} {o o' : Obj} : putBlk (putBlk w b o) b o' = putBlk w b o' := by
  unfold putBlk; simp

/-- cells written one behind the other -/
def spl (us : Array Value) (o : Nat) : List Value → Array Value
  | [] => us
  | v :: vs => spl (us.setIfInBounds o v) (o + 1) vs

theorem spl_toList : ∀ (vs : List Value) (us : Array Value) (o : Nat), o + vs.length ≤ us.size →
    (spl us o vs).toList = us.toList.take o ++ vs ++ us.toList.drop (o + vs.length) := by
  intro vs
  induction vs with
  | nil => intro us o _; simp [spl]
  | cons v vs ih =>
    intro us o h
    simp only [List.length_cons] at h
    simp only [spl]
    rw [ih _ _ (by simp; omega)]
    simp only [Array.toList_setIfInBounds, List.length_cons]
    have h1 : (us.toList.set o v).take (o + 1) = us.toList.take o ++ [v] := by
      rw [List.take_add_one, List.take_set_of_le (Nat.le_refl _)]
      simp [show o < us.size from by omega]
    have h2 : (us.toList.set o v).drop (o + 1 + vs.length) = us.toList.drop (o + (vs.length + 1)) := by
      rw [List.drop_set_of_lt (by omega)]
      congr 1; omega
    rw [h1, h2]
    simp

theorem run_store {P : Program} {w : World} {blk off : Nat} {us : Array Value} {e : TypeId} {v : Value}
    (hb : w.heap[blk]? = some (.cells us e (0, 0))) (ho : off < us.size) (hv : isCell v = true) :
    (store ⟨blk, off, none⟩ v).run P w = .ok () (putBlk w blk (.cells (us.setIfInBounds off v) e (0, 0))) := by
  have hc : w.cell? ⟨blk, off, none⟩ = some us[off] := by simp [World.cell?, hb, ho]
  have hf : w.frozen? ⟨blk, off, none⟩ = false := by simp [World.frozen?, hb]
  have hs : w.setCell ⟨blk, off, none⟩ v = putBlk w blk (.cells (us.setIfInBounds off v) e (0, 0)) := by
    unfold World.setCell putBlk
    congr 1
    have hlt : blk < w.heap.size := (Array.getElem?_eq_some_iff.1 hb).1
    have hbb : w.heap[blk] = .cells us e (0, 0) := (Array.getElem?_eq_some_iff.1 hb).2
    apply Array.ext_getElem?
    intro i
    by_cases hi : blk = i
    · subst hi
      simp [hlt, Array.getElem_modify, hbb]
    · simp [Array.getElem?_modify, hi, Array.getElem?_setIfInBounds_ne hi]
  cases v <;> simp_all [store, Sem.run, isCell]

theorem run_storeCells {P : Program} {blk off : Nat} {e : TypeId} : ∀ (vs : List Value) (i : Nat) (w : World) (us : Array Value),
    w.heap[blk]? = some (.cells us e (0, 0)) → off + i + vs.length ≤ us.size → (∀ v ∈ vs, isCell v = true) →
    (storeCells ⟨blk, off, none⟩ vs i).run P w = .ok () (putBlk w blk (.cells (spl us (off + i) vs) e (0, 0))) := by
  intro vs
  induction vs with
  | nil =>
    intro i w us hb _ _
    have : putBlk w blk (.cells us e (0, 0)) = w := by
      unfold putBlk
      have hlt : blk < w.heap.size := (Array.getElem?_eq_some_iff.1 hb).1
      have hbb : w.heap[blk] = .cells us e (0, 0) := (Array.getElem?_eq_some_iff.1 hb).2
      have : w.heap.setIfInBounds blk (.cells us e (0, 0)) = w.heap := by
        apply Array.ext_getElem?
        intro j
        by_cases hj : blk = j
        · subst hj; simp [hlt, hbb]
        · simp [Array.getElem?_setIfInBounds_ne hj]
      rw [this]
    simp [storeCells, Pure.pure, spl, this]
  | cons v vs ih =>
    intro i w us hb hl hv
    simp only [List.length_cons] at hl
    have hlt : blk < w.heap.size := (Array.getElem?_eq_some_iff.1 hb).1
    unfold storeCells
    rw [Sem.run_bind, addr_add, run_store hb (by omega) (hv v List.mem_cons_self)]
    simp only [Result.andThen]
    rw [ih (i + 1) _ (us.setIfInBounds (off + i) v) (by rw [putBlk_get hlt]; simp) (by simp; omega) (fun x hx => hv x (List.mem_cons_of_mem _ hx)), putBlk_put]
    simp only [spl, Nat.add_assoc]

/-! ### values as cells -/
theorem cells_of_cell {v : Value} (h : isCell v = true) : v.cells = #[v] := by
  cases v <;> simp_all [isCell, Value.cells]

/-- the cells of a plain value -/
def SV.pcs : SV → List PC
  | .pag cs => cs
  | .one (.p x) => [x]
  | _ => []
/-- is it plain? -/
def SV.plain : SV → Bool
  | .pag _ => true
  | .one (.p _) => true
  | _ => false
/-- the cells of a value -/
def SV.acs : SV → List AC
  | .pag cs => cs.map .p
  | .one c => [c]
  | .agg cs => cs

theorem All2.cell {G : Frz} : ∀ {cs : List PC} {us : List Value}, All2 (RepP G) cs us → ∀ v ∈ us, isCell v = true
  | [], [], _, v, h => by simp at h
  | _ :: _, u :: us, h, v, hv => by
    rcases List.mem_cons.1 hv with e | e
    · subst e; exact h.1.cell
    · exact All2.cell h.2 v e
  | [], _ :: _, h, _, _ => h.elim
  | _ :: _, [], h, _, _ => h.elim
theorem All2.cellC {G : Frz} {ν : Pl} : ∀ {cs : List AC} {us : List Value}, All2 (RepC G ν) cs us → ∀ v ∈ us, isCell v = true
  | [], [], _, v, h => by simp at h
  | _ :: _, u :: us, h, v, hv => by
    rcases List.mem_cons.1 hv with e | e
    · subst e; exact h.1.cell
    · exact All2.cellC h.2 v e
  | [], _ :: _, h, _, _ => h.elim
  | _ :: _, [], h, _, _ => h.elim

theorem rep_pcs {G : Frz} {ν : Pl} {x : SV} {v : Value} (hp : x.plain = true) (h : RepS G ν x v) : All2 (RepP G) x.pcs v.cells.toList := by
  cases x with
  | pag cs => obtain ⟨us, e, hu⟩ := h; subst e; exact hu
  | one c =>
    cases c with
    | p x =>
      have h' : RepP G x v := h
      rw [cells_of_cell h'.cell]; exact ⟨h', trivial⟩
    | _ => cases hp
  | agg cs => cases hp

theorem All2.map_p {G : Frz} {ν : Pl} : ∀ {cs : List PC} {us : List Value}, All2 (RepP G) cs us → All2 (RepC G ν) (cs.map .p) us
  | [], [], _ => trivial
  | _ :: _, _ :: _, h => ⟨h.1, All2.map_p h.2⟩
  | [], _ :: _, h => h.elim
  | _ :: _, [], h => h.elim

theorem rep_acs {G : Frz} {ν : Pl} {x : SV} {v : Value} (h : RepS G ν x v) : All2 (RepC G ν) x.acs v.cells.toList := by
  cases x with
  | pag cs => obtain ⟨us, e, hu⟩ := h; subst e; exact hu.map_p
  | one c =>
    have h' : RepC G ν c v := h
    rw [cells_of_cell h'.cell]; exact ⟨h', trivial⟩
  | agg cs => obtain ⟨us, e, hu⟩ := h; subst e; exact hu

/-! ### one object -/
def B1 (κ : Key) (o : AO) : BL := [(κ, some o)]
theorem B1_fn {κ κ' : Key} {o o' : AO} (h : (B1 κ o).fn κ' = some o') : κ' = κ ∧ o' = o := by
  simp only [B1, BL.fn, look] at h
  split at h
  · rename_i e; simp only [Option.join_some, Option.some.injEq] at h; exact ⟨e.symm, h.symm⟩
  · simp at h
theorem B1_self (κ : Key) (o : AO) : (B1 κ o).fn κ = some o := by simp [B1, BL.fn, look]
theorem B1_sat {G : Frz} {ν : Pl} {w : World} {κ : Key} {o : AO} (h : SatO G ν w κ o) (hf : o.lives ν κ → G (ν κ).1 = []) (hl : o.lives ν κ → (ν κ).1 < w.heap.size) :
    SatB G ν w (B1 κ o).fn where
  obj κ' o' h' := by obtain ⟨rfl, rfl⟩ := B1_fn h'; exact h
  free κ' o' h' _ := by obtain ⟨rfl, rfl⟩ := B1_fn h'; exact hf
  lt κ' o' h' := by obtain ⟨rfl, rfl⟩ := B1_fn h'; exact hl
  apart κ₁ κ₂ o₁ o₂ h₁ h₂ hne := by
    obtain ⟨rfl, rfl⟩ := B1_fn h₁
    obtain ⟨rfl, rfl⟩ := B1_fn h₂
    exact (hne rfl).elim

/-- a place for one more key -/
def Pl.set (ν : Pl) (κ : Key) (p : Nat × Nat) : Pl := fun κ' => if κ' = κ then p else ν κ'
theorem Pl.set_self (ν : Pl) (κ : Key) (p : Nat × Nat) : ν.set κ p κ = p := by simp [Pl.set]
theorem Pl.set_ne (ν : Pl) {κ κ' : Key} (p : Nat × Nat) (h : κ' ≠ κ) : ν.set κ p κ' = ν κ' := by simp [Pl.set, h]

/-- a block laid -/
def layBlk (w : World) (o : Obj) : World := { w with heap := w.heap.push o }
theorem layBlk_get (w : World) (o : Obj) (r : Nat) : (layBlk w o).heap[r]? = if r = w.heap.size then some o else w.heap[r]? := by
  unfold layBlk
  simp only [Array.getElem?_push]
theorem Sat.lay {G : Frz} {w : World} (h : Sat G w) (o : Obj) : Sat G (layBlk w o) := by
  intro b hb
  have hlt := h.lt hb
  obtain ⟨vs, e, fr, h1, h2⟩ := h b hb
  refine ⟨vs, e, fr, ?_, h2⟩
  rw [layBlk_get, if_neg (by omega)]; exact h1
theorem Keep.lay (X : Nat → Prop) (G : Frz) (w : World) (o : Obj) : Keep X G w G (layBlk w o) :=
  ⟨by simp [layBlk], fun b hb _ => by rw [layBlk_get, if_neg (by omega)], fun _ _ _ => rfl, G.le_refl, rfl, rfl, rfl⟩
theorem Sat.put {G : Frz} {w : World} (h : Sat G w) {b : Nat} (hb : G b = []) (hlt : b < w.heap.size) (o : Obj) : Sat G (putBlk w b o) := by
  intro r hr
  obtain ⟨vs, e, fr, h1, h2⟩ := h r hr
  refine ⟨vs, e, fr, ?_, h2⟩
  rw [putBlk_get hlt, if_neg (fun e => hr (by rw [e]; exact hb))]; exact h1
theorem Keep.put {X : Nat → Prop} {G : Frz} {w : World} {b : Nat} (hX : X b) (hlt : b < w.heap.size) (o : Obj) : Keep X G w G (putBlk w b o) :=
  ⟨by simp [putBlk], fun r _ hx => by
    have hne : ¬ r = b := fun h => hx (by rw [h]; exact hX)
    rw [putBlk_get hlt, if_neg hne], fun _ _ _ => rfl, G.le_refl, rfl, rfl, rfl⟩

theorem run_newVar {P : Program} {t : TypeId} {v : Value} {w : World} : (newVar t v).run P w = .ok ⟨w.heap.size, 0, none⟩ (layBlk w (.cells v.cells t)) := by
  simp [newVar, newRow, newObj, Sem.run, Sem.run_bind, Result.andThen, Pure.pure, layBlk]

section
variable {P : Program} {ops : Array Oper} {n : Nat} {os : List Oper} {F : Facts} {B : BL} {evs : List Ev} {K : FF → BF → List Ev → Prop}
variable {d t u ty : Nat} {x y z : Operand} {pos : String} {aft : Array Edge} {g : Option (Nat × Bool)}

/-- a rule for what lays one new object: a block -/
theorem Run.lay {o : Oper} (d : Nat) (xs : List (Operand × AV)) (ao : AO)
    (hg : GOk ops F o false) (hdst : o.dst = some d) (hd : Nat.blt d n = true) (hx : OvAll F.fn xs) (hlive : ∀ ν κ, ao.lives ν κ)
    (ht : ∀ G ν (ρ : Operand → Value) w, Sat G w → RepAll G ν ρ xs → ∃ ob, (execOp ρ o).run P w = .ok (.value (.pointer (some ⟨w.heap.size, 0, none⟩))) (layBlk w ob) ∧
      ∀ G' ν' w' κ, G.le G' → (∀ κ' ∈ ao.keys, ν' κ' = ν κ') → w'.heap[(ν' κ).1]? = some ob → SatO G' ν' w' κ ao)
    (hk : d ∉ ao.keys)
    (h : Run P ops n os ((d, vC (.ptr d 0)) :: F) ((d, some ao) :: B) (evs ++ [⟨o, false, opFs xs, [], vC (.ptr d 0), [(d, some ao)], [d], false⟩]) K) :
    Run P ops n (o :: os) F B evs K := by
  refine Run.op xs [] (B1 d ao) (vC (.ptr d 0)) [d] false hg (fun d' h' => by rw [hdst] at h'; cases h'; simpa using hd) hx (fun κ x h => by simp [BL.fn, look] at h) (fun κ x h => by simp [BL.fn, look] at h)
    (fun h => by cases h) ?_ ?_
  · intro G ν a w hS hr hB
    obtain ⟨ob, hrun, hv⟩ := ht G ν a.eval w hS hr
    unfold Oper.wp
    rw [hrun]
    have hlt : w.heap.size < (layBlk w ob).heap.size := by simp [layBlk]
    have hfree : G w.heap.size = [] := by
      by_cases h : G w.heap.size = []
      · exact h
      · have := hS.lt h; omega
    refine ⟨G, ν.set d (w.heap.size, 0), _, rfl, by simp [RepV, RepS, RepC, Pl.set], hS.lay ob, B1_sat ?_ ?_ ?_, Keep.lay _ _ _ _, fun κ hκ => ?_, fun κ o h _ => ?_⟩
    · refine hv G _ _ d G.le_refl (fun κ' hκ' => Pl.set_ne _ _ (fun e => hk (e ▸ hκ'))) ?_
      rw [Pl.set_self, layBlk_get]; simp
    · intro _; rw [Pl.set_self]; exact hfree
    · intro _; rw [Pl.set_self]; exact hlt
    · exact Pl.set_ne _ _ (by simpa using hκ)
    · obtain ⟨rfl, rfl⟩ := B1_fn h
      right; rw [Pl.set_self]; exact Nat.le_refl _
  · simpa [Ev.F, Ev.B, hdst, B1] using h

/-- 'new' of a type whose zero value is plain -/
theorem R.alloc {e : Nat} (zs : List Value) (hg : GOk ops F ⟨some d, .alloc e, ty, pos, aft, g⟩ false) (hd : Nat.blt d n = true)
    (z : Value) (hz : ∀ w, (zeroValue e).run P w = .ok z w) (hzs : z.cells.toList = zs) (hc : zs.all isCell = true)
    (h : Run P ops n os ((d, vC (.ptr d 0)) :: F) ((d, some (.pbox (zs.map .v))) :: B) (evs ++ [⟨⟨some d, .alloc e, ty, pos, aft, g⟩, false, [], [], vC (.ptr d 0), [(d, some (.pbox (zs.map .v)))], [d], false⟩]) K) :
    Run P ops n (⟨some d, .alloc e, ty, pos, aft, g⟩ :: os) F B evs K := by
  refine Run.lay d [] (.pbox (zs.map .v)) hg rfl hd trivial (fun _ _ => trivial) ?_ (by simp [AO.keys]) h
  intro G ν ρ w _ _
  refine ⟨.cells z.cells e, ?_, ?_⟩
  · simp [execOp, Instr.alloc, hz, Sem.run_bind, Result.andThen, run_newVar, Sem.run, Pure.pure]
  · intro G' ν' w' κ _ _ hb
    refine ⟨z.cells, e, hb, ?_⟩
    rw [hzs]
    have : ∀ l : List Value, l.all isCell = true → All2 (RepP G') (l.map .v) l := by
      intro l
      induction l with
      | nil => intro _; trivial
      | cons a l ih => intro h; simp only [List.all_cons, Bool.and_eq_true] at h; exact ⟨.v a h.1, ih h.2⟩
    exact this zs hc

/-- a variable in memory, with a plain value -/
theorem R.boxP {e : Nat} {v : SV} (hp : v.plain = true) (hg : GOk ops F ⟨some d, .box e x, ty, pos, aft, g⟩ false) (hd : Nat.blt d n = true) (hx : ov F.fn x = some (.s v))
    (h : Run P ops n os ((d, vC (.ptr d 0)) :: F) ((d, some (.pbox v.pcs)) :: B) (evs ++ [⟨⟨some d, .box e x, ty, pos, aft, g⟩, false, opFs [(x, .s v)], [], vC (.ptr d 0), [(d, some (.pbox v.pcs))], [d], false⟩]) K) :
    Run P ops n (⟨some d, .box e x, ty, pos, aft, g⟩ :: os) F B evs K := by
  refine Run.lay d [(x, .s v)] (.pbox v.pcs) hg rfl hd ⟨hx, trivial⟩ (fun _ _ => trivial) ?_ (by simp [AO.keys]) h
  intro G ν ρ w _ hr
  refine ⟨.cells (ρ x).cells e, ?_, ?_⟩
  · simp [execOp, Instr.box, Sem.run_bind, Result.andThen, run_newVar, Sem.run, Pure.pure]
  · intro G' ν' w' κ hG _ hb
    exact ⟨_, e, hb, (rep_pcs hp hr.1).mono fun _ _ h => h.mono hG⟩

/-- .. with whatever value -/
theorem R.boxA {e : Nat} {v : SV} (hg : GOk ops F ⟨some d, .box e x, ty, pos, aft, g⟩ false) (hd : Nat.blt d n = true) (hx : ov F.fn x = some (.s v)) (hk : (v.acs.flatMap AC.keys).contains d = false)
    (h : Run P ops n os ((d, vC (.ptr d 0)) :: F) ((d, some (.box v.acs)) :: B) (evs ++ [⟨⟨some d, .box e x, ty, pos, aft, g⟩, false, opFs [(x, .s v)], [], vC (.ptr d 0), [(d, some (.box v.acs))], [d], false⟩]) K) :
    Run P ops n (⟨some d, .box e x, ty, pos, aft, g⟩ :: os) F B evs K := by
  refine Run.lay d [(x, .s v)] (.box v.acs) hg rfl hd ⟨hx, trivial⟩ (fun _ _ => trivial) ?_ (fun hm => by
      have hm' : d ∈ v.acs.flatMap AC.keys := hm
      rw [List.contains_iff_mem.2 hm'] at hk; cases hk) h
  intro G ν ρ w _ hr
  refine ⟨.cells (ρ x).cells e, ?_, ?_⟩
  · simp [execOp, Instr.box, Sem.run_bind, Result.andThen, run_newVar, Sem.run, Pure.pure]
  · intro G' ν' w' κ hG hν hb
    exact ⟨_, e, hb, All2.monoK hG hν (rep_acs hr.1)⟩

end
end Go.Abs
