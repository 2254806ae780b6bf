/-
  Rules: rows made, and appended to.
-/
import Derived.Test.YtfaepfnjilgioaaDoorScA14
set_option linter.all false
set_option linter.unusedSimpArgs false
set_option linter.unusedVariables false
namespace Go.Abs
open Go

theorem noB {κ : Key} {x : AO} (h : BL.fn [] κ = some x) : False := by simp [BL.fn, look] at h

/-- a row filled element by element -/
theorem fill_row {G : Frz} {k : Nat} : ∀ (es : List (List PC)) (vs : List Value) (i : Nat) (us : Array Value), All2 (fun c v => c.length = k ∧ All2 (RepP G) c v.cells.toList) es vs →
    (i + es.length) * k ≤ us.size →
    ∃ out, Instr.fill (fun i => some (i * k, k)) us ((List.range' i vs.length).zip vs) = some out ∧ out.size = us.size ∧ out.toList.take (i * k) = us.toList.take (i * k) ∧
      Row G k es ((out.toList.drop (i * k)).take (es.length * k))
  | [], [], i, us, _, _ => ⟨us, rfl, rfl, rfl, by simpa using Row.nil G k⟩
  | c :: es, v :: vs, i, us, h, hl => by
    obtain ⟨⟨hck, hcv⟩, hr⟩ := h
    have hvl := hcv.len
    simp only [Array.length_toList] at hvl
    simp only [List.length_cons] at hl
    have e1 : (i + (es.length + 1)) * k = i * k + k + es.length * k := by simp only [Nat.add_mul, Nat.one_mul]; omega
    have hsp := spl_toList v.cells.toList us (i * k) (by simp; omega)
    have hsz : (spl us (i * k) v.cells.toList).size = us.size := by
      have := congrArg List.length hsp
      simp only [Array.length_toList, List.length_append, List.length_take, List.length_drop] at this
      omega
    obtain ⟨out, h1, h2, h3, h4⟩ := fill_row es vs (i + 1) (spl us (i * k) v.cells.toList) hr (by rw [hsz]; simp only [Nat.add_mul, Nat.one_mul] at *; omega)
    have hvl' : v.cells.toList.length = k := by simp; omega
    have e2 : (i + 1) * k = i * k + k := by rw [Nat.add_mul, Nat.one_mul]
    rw [e2] at h3 h4
    have hlt : (us.toList.take (i * k)).length = i * k := by simp; omega
    -- the first cells behind the filling
    have hfront : out.toList.take (i * k + k) = us.toList.take (i * k) ++ v.cells.toList := by
      rw [h3, hsp]
      exact List.take_left' (by simp; omega)
    refine ⟨out, ?_, by omega, ?_, ?_⟩
    · simp only [List.length_cons, List.range'_succ, List.zip_cons_cons]
      rw [fill_cons (m := k) (off := i * k) rfl (by omega) (by omega)]; exact h1
    · have := congrArg (List.take (i * k)) hfront
      rw [List.take_take, Nat.min_eq_left (by omega), List.take_append_of_le_length (by omega), List.take_take, Nat.min_self] at this
      exact this
    · have hd : (out.toList.drop (i * k)).take ((c :: es).length * k) = v.cells.toList ++ (out.toList.drop (i * k + k)).take (es.length * k) := by
        have hsplit : out.toList.drop (i * k) = v.cells.toList ++ out.toList.drop (i * k + k) := by
          have h5 : out.toList = (us.toList.take (i * k) ++ v.cells.toList) ++ out.toList.drop (i * k + k) := by
            rw [← hfront, List.take_append_drop]
          have h6 : out.toList.drop (i * k) = ((us.toList.take (i * k) ++ v.cells.toList) ++ out.toList.drop (i * k + k)).drop (i * k) := by rw [← h5]
          rw [h6, List.append_assoc, List.drop_append_of_le_length (by omega)]
          rw [List.drop_eq_nil_of_le (by omega), List.nil_append]
        rw [hsplit, List.length_cons, Nat.add_mul, Nat.one_mul, List.take_append]
        rw [List.take_of_length_le (by omega), show es.length * k + k - v.cells.toList.length = es.length * k from by omega]
      rw [hd]
      have hrow1 : Row G k [c] v.cells.toList := by
        refine ⟨by simp; omega, by simpa using hck, fun i j p hp => ?_⟩
        cases i with
        | zero => simp at hp; obtain ⟨u, q1, q2⟩ := hcv.get j p hp; exact ⟨u, by simpa using q1, q2⟩
        | succ i => simp at hp
      exact hrow1.append h4
  | [], _ :: _, _, _, h, _ => h.elim
  | _ :: _, [], _, _, h, _ => h.elim

theorem run_newRow {P : Program} {t : TypeId} {us : Array Value} {w : World} : (newRow t us).run P w = .ok ⟨w.heap.size, 0, none⟩ (layBlk w (.cells us t)) := by
  simp [newRow, newObj, Sem.run, Sem.run_bind, Result.andThen, Pure.pure, layBlk]

theorem run_buildSlice {P : Program} {t e k len : Nat} {z : Value} {vs : Array (Nat × Value)} {w : World} (hu : P.underlying t = some (.slice e)) (hs : ∀ w, (sizeOf e).run P w = .ok k w)
    (hz : ∀ w, (zeroValue e).run P w = .ok z w) (hlen : len * k ≤ 2 ^ 24) :
    ∃ us : Array Value, us.size = len * k ∧ ∀ out, Instr.fill (fun i => some (i * k, k)) us vs.toList = some out →
      (Instr.buildSlice t len vs).run P w = .ok (.slice (some ⟨w.heap.size, 0, none⟩) len len) (layBlk w (.cells out e)) := by
  by_cases h0 : len * k = 0
  · refine ⟨#[], by simp [h0], fun out h => ?_⟩
    have hle : ¬ (len * k > 2 ^ 24) := by omega
    have h0' : ∀ f : Nat → Value, (Array.range (len * k)).map f = #[] := by intro f; rw [h0]; simp
    simp only [Instr.buildSlice, Sem.run_bind, run_underlying hu, Result.andThen, hs, if_neg hle]
    rw [if_pos h0]
    simp only [h0', h]
    simp [run_newRow, Sem.run_bind, Result.andThen, Sem.run, Pure.pure]
  · refine ⟨(Array.range (len * k)).map (z.cells[· % z.cells.size]!), by simp, fun out h => ?_⟩
    have hle : ¬ (len * k > 2 ^ 24) := by omega
    simp only [Instr.buildSlice, Sem.run_bind, run_underlying hu, Result.andThen, hs, if_neg hle, if_neg h0, hz]
    simp [h, run_newRow, Sem.run_bind, Result.andThen, Sem.run, Pure.pure]

/-- a block of the frozen rows more -/
def Frz.set (G : Frz) (b : Nat) (us : List Value) : Frz := fun r => if r = b then us else G r
theorem Frz.set_self (G : Frz) (b : Nat) (us : List Value) : G.set b us b = us := by simp [Frz.set]
theorem Frz.set_ne (G : Frz) {b r : Nat} (us : List Value) (h : r ≠ b) : G.set b us r = G r := by simp [Frz.set, h]
theorem Frz.le_set {G : Frz} {b : Nat} {us : List Value} (h : G b <+: us) : G.le (G.set b us) := by
  intro r
  by_cases e : r = b
  · subst e; rw [Frz.set_self]; exact h
  · rw [Frz.set_ne _ _ e]; exact List.prefix_refl _

theorem Sat.fresh {G : Frz} {w : World} (h : Sat G w) {b : Nat} (hb : w.heap.size ≤ b) : G b = [] := by
  by_cases e : G b = []
  · exact e
  · have := h.lt e; omega

theorem Sat.laid {G : Frz} {w : World} (h : Sat G w) (us : Array Value) (t : TypeId) (l : List Value) (hl : l <+: us.toList) : Sat (G.set w.heap.size l) (layBlk w (.cells us t)) := by
  intro r hr
  by_cases e : r = w.heap.size
  · subst e
    refine ⟨us, t, (0, 0), by rw [layBlk_get]; simp, ?_⟩
    rw [Frz.set_self]; exact hl
  · rw [Frz.set_ne _ _ e] at hr ⊢
    exact Sat.lay h _ r hr

theorem Keep.laid (X : Nat → Prop) {G : Frz} {w : World} (h : Sat G w) (o : Obj) (l : List Value) : Keep X G w (G.set w.heap.size l) (layBlk w o) where
  size := by simp [layBlk]
  heap b hb _ := by rw [layBlk_get, if_neg (by omega)]
  fz b hb _ := Frz.set_ne _ _ (by omega)
  le := Frz.le_set (by rw [h.fresh (Nat.le_refl _)]; exact List.nil_prefix)
  tape := rfl
  os := rfl
  output := rfl

/-- a row that lies in a frozen block is a slice's -/
theorem rep_of_row {G : Frz} {k : Nat} {es : List (List PC)} {us : List Value} {b off cap : Nat} (h : Row G k es us) (hg : ∀ (j : Nat) (u : Value), us[j]? = some u → (G b)[off + j]? = some u) (hc : es.length ≤ cap) :
    RepP G (.sl k es) (.slice (some ⟨b, off, none⟩) es.length cap) := by
  refine .sl b off (fun i => us.getD i undef) hc h.2.1 (fun _ => rfl) (fun i hi => ?_) (fun i j c hc => ?_)
  · have hi' : i < us.length := by rw [h.1]; exact hi
    have e : us[i]? = some (us.getD i undef) := by simp [List.getD_eq_getElem?_getD, List.getElem?_eq_getElem hi']
    exact hg i _ e
  · obtain ⟨u, h1, h2⟩ := h.2.2 i j c hc
    have e : us.getD (i * k + j) undef = u := by simp [List.getD_eq_getElem?_getD, h1]
    simp only [e]; exact h2

section
variable {P : Program} {ops : Array Oper} {n : Nat} {os : List Oper} {F : Facts} {B : BL} {evs : List Ev} {K : FF → BF → List Ev → Prop}
variable {d t u ty : Nat} {x y z : Operand} {pos : String} {aft : Array Edge} {g : Option (Nat × Bool)}

/-- parts in their order -/
def rowParts (i : Nat) : List (Operand × SV) → List (Nat × Operand)
  | [] => []
  | p :: xs => (i, p.1) :: rowParts (i + 1) xs
def rowOk (k : Nat) : List (Operand × SV) → Bool
  | [] => true
  | p :: xs => p.2.plain && Nat.beq p.2.pcs.length k && rowOk k xs

theorem rowParts_eq (ρ : Operand → Value) : ∀ (xs : List (Operand × SV)) (i : Nat), (rowParts i xs).map (fun p => (p.1, ρ p.2)) = (List.range' i xs.length).zip (xs.map fun p => ρ p.1)
  | [], _ => rfl
  | _ :: xs, i => by simp only [rowParts, List.map_cons, List.length_cons, List.range'_succ, List.zip_cons_cons, rowParts_eq ρ xs (i + 1)]

theorem rowOk_rep {G : Frz} {ν : Pl} {ρ : Operand → Value} {k : Nat} : ∀ {xs : List (Operand × SV)}, rowOk k xs = true → RepAll G ν ρ (xs.map fun p => (p.1, .s p.2)) →
    All2 (fun c v => c.length = k ∧ All2 (RepP G) c v.cells.toList) (xs.map fun p => p.2.pcs) (xs.map fun p => ρ p.1)
  | [], _, _ => trivial
  | _ :: _, h, hr => by
    simp only [rowOk, Bool.and_eq_true] at h
    exact ⟨⟨Nat.eq_of_beq_eq_true h.1.2, rep_pcs h.1.1 hr.1⟩, rowOk_rep h.2 hr.2⟩

theorem lit_row {k e len : Nat} {zv : Value} (hu : P.underlying t = some (.slice e)) (hs : ∀ w, (sizeOf e).run P w = .ok k w) (hz : ∀ w, (zeroValue e).run P w = .ok zv w)
    (xs : List (Operand × SV)) (hlen : xs.length = len) (hle : len * k ≤ 2 ^ 24) (hok : rowOk k xs = true) {G : Frz} {ν : Pl} {ρ : Operand → Value} (hr : RepAll G ν ρ (xs.map fun p => (p.1, .s p.2))) (w : World) :
    ∃ out : Array Value, (Instr.buildSlice t len ((rowParts 0 xs).toArray.map fun (i, x) => (i, ρ x))).run P w = .ok (.slice (some ⟨w.heap.size, 0, none⟩) len len) (layBlk w (.cells out e)) ∧
      out.size = len * k ∧ Row G k (xs.map fun p => p.2.pcs) out.toList := by
  subst hlen
  obtain ⟨us, h1, h2⟩ := run_buildSlice (P := P) (t := t) (vs := (rowParts 0 xs).toArray.map fun (i, x) => (i, ρ x)) (w := w) hu hs hz hle
  obtain ⟨out, h3, h4, _, h6⟩ := fill_row (xs.map fun p => p.2.pcs) (xs.map fun p => ρ p.1) 0 us (rowOk_rep hok hr) (by simp; omega)
  refine ⟨out, h2 out ?_, by omega, ?_⟩
  · have := rowParts_eq ρ xs 0
    simp only [List.length_map] at h3
    rw [← this] at h3
    simpa using h3
  · simp only [Nat.zero_mul, List.drop_zero, List.length_map] at h6
    rw [List.take_of_length_le (by simp; omega)] at h6
    exact h6

/-- a slice's literal, frozen at once -/
theorem R.litF {k e len : Nat} {zv : Value} {parts : Array (Nat × Operand)} (xs : List (Operand × SV)) (hg : GOk ops F ⟨some d, .buildSlice t len parts, ty, pos, aft, g⟩ false) (hd : Nat.blt d n = true) (hx : OvAll F.fn (xs.map fun p => (p.1, .s p.2)))
    (hu : P.underlying t = some (.slice e)) (hs : ∀ w, (sizeOf e).run P w = .ok k w) (hz : ∀ w, (zeroValue e).run P w = .ok zv w)
    (hp : parts = (rowParts 0 xs).toArray) (hlen : xs.length = len) (hle : Nat.ble (len * k) 16777216 = true) (hok : rowOk k xs = true)
    (h : Run P ops n os ((d, vL k (xs.map fun p => p.2.pcs)) :: F) B (evs ++ [ev0 ⟨some d, .buildSlice t len parts, ty, pos, aft, g⟩ (xs.map fun p => (p.1, .s p.2)) (vL k (xs.map fun p => p.2.pcs))]) K) :
    Run P ops n (⟨some d, .buildSlice t len parts, ty, pos, aft, g⟩ :: os) F B evs K := by
  refine Run.op _ [] [] (vL k (xs.map fun p => p.2.pcs)) [] false hg (fun d' h' => by cases h'; simpa using hd) hx (fun κ x h => by simp [BL.fn, look] at h) (fun κ x h => by simp [BL.fn, look] at h)
    (fun h => by cases h) ?_ (by simpa [Ev.F, Ev.B] using h)
  intro G ν a w hS hr hB
  obtain ⟨out, h1, h2, h3⟩ := lit_row (P := P) hu hs hz xs hlen (by simpa using hle) hok hr w
  subst hp
  unfold Oper.wp
  simp only [execOp]
  simp only [Sem.run_bind, h1, Result.andThen]
  refine ⟨G.set w.heap.size out.toList, ν, _, rfl, ?_, hS.laid _ _ _ (List.prefix_refl _), ?_, Keep.laid _ hS _ _, fun _ _ => rfl, fun κ o h => by simp [BL.fn, look] at h⟩
  · have hG : G.le (G.set w.heap.size out.toList) := Frz.le_set (by rw [hS.fresh (Nat.le_refl _)]; exact List.nil_prefix)
    have := rep_of_row (G := G.set w.heap.size out.toList) (b := w.heap.size) (off := 0) (cap := len) (h3.mono hG) (fun j u hj => by rw [Frz.set_self, Nat.zero_add]; exact hj) (by simp; omega)
    simp only [List.length_map, hlen] at this
    exact this
  · exact ⟨fun κ o h => by simp [BL.fn, look] at h, fun κ o h => by simp [BL.fn, look] at h, fun κ o h => by simp [BL.fn, look] at h, fun κ κ' o o' h => by simp [BL.fn, look] at h⟩

/-- what makes a row that is owned -/
theorem Run.newRow {o : Oper} (d : Nat) (xs : List (Operand × AV)) (k : Nat) (es : List (List PC))
    (hg : GOk ops F o false) (hdst : o.dst = some d) (hd : Nat.blt d n = true) (hx : OvAll F.fn xs)
    (ht : ∀ G ν (ρ : Operand → Value) w, Sat G w → RepAll G ν ρ xs → ∃ e us, (execOp ρ o).run P w = .ok (.value (.slice (some ⟨w.heap.size, 0, none⟩) es.length es.length)) (layBlk w (.cells us e)) ∧ Row G k es us.toList)
    (h : Run P ops n os ((d, vC (.hs d es.length)) :: F) ((d, some (.hot k es)) :: B) (evs ++ [⟨o, false, opFs xs, [], vC (.hs d es.length), [(d, some (.hot k es))], [d], false⟩]) K) :
    Run P ops n (o :: os) F B evs K := by
  refine Run.op xs [] (B1 d (.hot k es)) (vC (.hs d es.length)) [d] false hg (fun d' h' => by rw [hdst] at h'; cases h'; simpa using hd) hx (fun κ x h => (noB h).elim) (fun κ x h => (noB h).elim)
    (fun h => by cases h) ?_ (by simpa [Ev.F, Ev.B, hdst, B1] using h)
  intro G ν a w hS hr hB
  obtain ⟨e, us, hrun, hrow⟩ := ht G ν a.eval w hS hr
  unfold Oper.wp
  rw [hrun]
  have hlt : w.heap.size < (layBlk w (.cells us e)).heap.size := by simp [layBlk]
  refine ⟨G, ν.set d (w.heap.size, es.length), _, rfl, ?_, hS.lay _, B1_sat ?_ ?_ ?_, Keep.lay _ _ _ _, fun κ hκ => Pl.set_ne _ _ (by simpa using hκ), fun κ o h _ => ?_⟩
  · exact ⟨_, by rw [Pl.set_self], by rw [Pl.set_self]; exact Nat.le_refl _, fun _ => by rw [Pl.set_self]⟩
  · refine ⟨by rw [Pl.set_self]; exact Nat.le_refl _, hrow.2.1, fun _ => ⟨us, e, by rw [Pl.set_self, layBlk_get]; simp, ?_, fun i j c hc => ?_⟩⟩
    · have := hrow.1
      simp only [Array.length_toList] at this
      rw [Pl.set_self, this]; exact Nat.le_refl _
    · obtain ⟨v, h1, h2⟩ := hrow.2.2 i j c hc
      exact ⟨v, by simpa using h1, h2⟩
  · intro _; rw [Pl.set_self]; exact hS.fresh (Nat.le_refl _)
  · intro _; rw [Pl.set_self]; exact hlt
  · obtain ⟨rfl, rfl⟩ := B1_fn h
    right; rw [Pl.set_self]; exact Nat.le_refl _

theorem R.litH {k e len : Nat} {zv : Value} {parts : Array (Nat × Operand)} (xs : List (Operand × SV)) (hg : GOk ops F ⟨some d, .buildSlice t len parts, ty, pos, aft, g⟩ false) (hd : Nat.blt d n = true) (hx : OvAll F.fn (xs.map fun p => (p.1, .s p.2)))
    (hu : P.underlying t = some (.slice e)) (hs : ∀ w, (sizeOf e).run P w = .ok k w) (hz : ∀ w, (zeroValue e).run P w = .ok zv w)
    (hp : parts = (rowParts 0 xs).toArray) (hlen : xs.length = len) (hle : Nat.ble (len * k) 16777216 = true) (hok : rowOk k xs = true)
    (h : Run P ops n os ((d, vC (.hs d (xs.map fun p => p.2.pcs).length)) :: F) ((d, some (.hot k (xs.map fun p => p.2.pcs))) :: B)
      (evs ++ [⟨⟨some d, .buildSlice t len parts, ty, pos, aft, g⟩, false, opFs (xs.map fun p => (p.1, .s p.2)), [], vC (.hs d (xs.map fun p => p.2.pcs).length), [(d, some (.hot k (xs.map fun p => p.2.pcs)))], [d], false⟩]) K) :
    Run P ops n (⟨some d, .buildSlice t len parts, ty, pos, aft, g⟩ :: os) F B evs K := by
  refine Run.newRow d _ k _ hg rfl hd hx (fun G ν ρ w hS hr => ?_) h
  obtain ⟨out, h1, h2, h3⟩ := lit_row (P := P) hu hs hz xs hlen (by simpa using hle) hok hr w
  refine ⟨e, out, ?_, h3⟩
  subst hp
  simp only [execOp]
  simp only [Sem.run_bind, h1, Result.andThen, List.length_map, hlen]
  rfl

end
end Go.Abs
