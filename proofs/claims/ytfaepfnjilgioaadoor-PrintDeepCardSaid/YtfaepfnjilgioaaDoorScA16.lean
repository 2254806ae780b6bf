/-
  Rules: append, make.
-/
import Derived.Test.YtfaepfnjilgioaaDoorScA15
set_option linter.all false
set_option linter.unusedSimpArgs false
set_option linter.unusedVariables false
namespace Go.Abs
open Go

theorem Sat.draw {G : Frz} {w : World} (h : Sat G w) (d : Nat) : Sat G { w with drawn := d } := h

theorem spl_get {us : Array Value} {o : Nat} {vs : List Value} (h : o + vs.length ≤ us.size) (q : Nat) :
    (spl us o vs)[q]? = if q < o then us[q]? else if q < o + vs.length then vs[q - o]? else us[q]? := by
  rw [← Array.getElem?_toList, spl_toList _ _ _ h]
  by_cases q1 : q < o
  · rw [if_pos q1, List.append_assoc, List.getElem?_append_left (by simp; omega), List.getElem?_take, if_pos q1]; simp
  · rw [if_neg q1, List.append_assoc, List.getElem?_append_right (by simp; omega)]
    have hlt : (us.toList.take o).length = o := by simp; omega
    rw [hlt]
    by_cases q2 : q < o + vs.length
    · rw [if_pos q2, List.getElem?_append_left (by omega)]
    · rw [if_neg q2, List.getElem?_append_right (by omega), List.getElem?_drop]
      rw [show o + vs.length + (q - o - vs.length) = q from by omega]; simp

theorem spl_size {us : Array Value} {o : Nat} {vs : List Value} (h : o + vs.length ≤ us.size) : (spl us o vs).size = us.size := by
  have := congrArg List.length (spl_toList vs us o h)
  simp only [Array.length_toList, List.length_append, List.length_take, List.length_drop] at this
  omega

theorem not_lives_hot {ν : Pl} {κ : Key} {k : Nat} {es : List (List PC)} (h : (ν κ).2 = 0) : ¬ (AO.hot k es).lives ν κ := fun h' => h' h

section
variable {P : Program} {ops : Array Oper} {n : Nat} {os : List Oper} {F : Facts} {B : BL} {evs : List Ev} {K : FF → BF → List Ev → Prop}
variable {d t u ty : Nat} {x y z : Operand} {pos : String} {aft : Array Edge} {g : Option (Nat × Bool)}

/-- what the growing, or the filling, of an owned row leaves -/
theorem append_core {t2 e e2 k bt : Nat} {i : TypeInfo} {zv : Value} (ht : P.underlying t = some (.slice e)) (ht2 : P.underlying t2 = some (.slice e2)) (hs : ∀ w, (sizeOf e).run P w = .ok k w)
    (hi : ∀ w, (typeInfo e).run P w = .ok i w) (hbt : i.bytes = bt) (hz : ∀ w, (zeroValue e).run P w = .ok zv w) (hzs : zv.cells.size = k)
    {G : Frz} {ν : Pl} {w : World} {κ : Key} {es news : List (List PC)} {v1 v2 : Value} (hS : Sat G w) (h1 : RepC G ν (.hs κ es.length) v1) (h2 : RepP G (.sl k news) v2)
    (hO : SatO G ν w κ (.hot k es)) (hfree : (ν κ).2 ≠ 0 → G (ν κ).1 = []) (hlt : (ν κ).2 ≠ 0 → (ν κ).1 < w.heap.size)
    (hroom : (es.length + news.length) * bt ≤ 140737488355328 ∧ es.length + news.length ≤ 9223372036854775807) (d : Key) :
    ∃ ν' v w', (Builtin.append_ #[t, t2] ty #[v1, v2]).run P w = .ok v w' ∧ (∀ κ', κ' ≠ d → ν' κ' = ν κ') ∧ RepC G ν' (.hs d (es ++ news).length) v ∧ Sat G w' ∧
      SatO G ν' w' d (.hot k (es ++ news)) ∧ ((ν' d).2 ≠ 0 → G (ν' d).1 = [] ∧ (ν' d).1 < w'.heap.size ∧ (((ν κ).2 ≠ 0 ∧ (ν' d).1 = (ν κ).1) ∨ w.heap.size ≤ (ν' d).1)) ∧
      Keep (fun r => (ν κ).2 ≠ 0 ∧ r = (ν κ).1) G w G w' := by
  obtain ⟨a, e1, hcap, ha⟩ := h1
  subst e1
  obtain ⟨b, cap2, us2, e2', hrow, hfc⟩ := firstCells_of (P := P) (w := w) hS h2
  subst e2'
  obtain ⟨_, _, _, e2'', hrow', hfc'⟩ := firstCells_of (P := P) (w := { w with drawn := w.drawn + 1 }) (hS.draw _) h2
  obtain ⟨hle, hek, hobj⟩ := hO
  have hap := run_append (P := P) (w := w) (t := t) (t2 := t2) (ty := ty) (a := a) (m := es.length) (cap := (ν κ).2) ht ht2 hs hi hbt hz hzs hfc
  by_cases hfit : es.length + news.length ≤ (ν κ).2
  · -- room
    by_cases hc0 : (ν κ).2 = 0
    · -- nothing at all
      have hes : es = [] := by cases es with | nil => rfl | cons => simp at hfit; omega
      have hns : news = [] := by cases news with | nil => rfl | cons => simp at hfit; omega
      subst hes hns
      have hus : us2 = [] := by have := hrow.1; simpa using this
      subst hus
      have hr := hap.1 hfit w (fun ad had => by simp [storeCells, Pure.pure]) (fun _ => rfl)
      refine ⟨ν.set d (ν κ), _, w, hr, fun κ' h => Pl.set_ne _ _ h, ⟨a, by rw [Pl.set_self]; simp, by rw [Pl.set_self]; simp, fun h => by rw [Pl.set_self] at h; exact (h hc0).elim⟩, hS,
        ⟨by simp, by simp, fun h => by rw [Pl.set_self] at h; exact (h hc0).elim⟩, fun h => by rw [Pl.set_self] at h; exact (h hc0).elim, Keep.refl _ _ _⟩
    · have ha' := ha hc0
      subst ha'
      obtain ⟨us, el, hb, hcu, hu⟩ := hobj hc0
      have hl2 : us2.length = news.length * k := hrow.1
      have hkk : (es.length + news.length) * k ≤ (ν κ).2 * k := Nat.mul_le_mul_right k hfit
      rw [Nat.add_mul] at hkk
      have hst := run_storeCells (P := P) (blk := (ν κ).1) (off := es.length * k) (e := el) us2 0 w us hb (by omega) hrow.cell
      simp only [Nat.add_zero] at hst
      have hr := hap.1 hfit _ (fun ad had => by cases had; rw [addr_add, Nat.zero_add]; exact hst) (fun h => by cases h)
      have hlt' := hlt hc0
      have hspl := spl_get (us := us) (o := es.length * k) (vs := us2) (by omega)
      refine ⟨ν.set d (ν κ), _, _, hr, fun κ' h => Pl.set_ne _ _ h, ⟨some ⟨(ν κ).1, 0, none⟩, by rw [Pl.set_self]; simp, by rw [Pl.set_self]; simpa using hfit, fun _ => by rw [Pl.set_self]⟩, hS.put (hfree hc0) hlt' _,
        ⟨by rw [Pl.set_self]; simpa using hfit, fun c hc => (List.mem_append.1 hc).elim (hek c) (hrow.2.1 c), fun _ => ⟨spl us (es.length * k) us2, el, by rw [Pl.set_self, putBlk_get hlt']; simp, ?_, ?_⟩⟩,
        fun _ => ⟨by rw [Pl.set_self]; exact hfree hc0, by rw [Pl.set_self]; simpa [putBlk] using hlt', Or.inl ⟨hc0, by rw [Pl.set_self]⟩⟩, Keep.put ⟨hc0, rfl⟩ hlt' _⟩
      · rw [Pl.set_self, spl_size (by omega)]; exact hcu
      · intro i' j' c' hc'
        rw [hspl]
        by_cases hi' : i' < es.length
        · rw [List.getElem?_append_left hi'] at hc'
          obtain ⟨uu, g1, g2⟩ := hu i' j' c' hc'
          refine ⟨uu, ?_, g2⟩
          have hj' : j' < k := by
            rw [List.getElem?_eq_getElem hi'] at hc'; simp only [Option.bind_some] at hc'
            rw [← hek _ (List.getElem_mem hi')]; exact (List.getElem?_eq_some_iff.1 hc').1
          have : (i' + 1) * k ≤ es.length * k := Nat.mul_le_mul_right k hi'
          rw [Nat.add_mul, Nat.one_mul] at this
          rw [if_pos (by omega)]; exact g1
        · rw [List.getElem?_append_right (by omega)] at hc'
          obtain ⟨uu, g1, g2⟩ := hrow.2.2 _ j' c' hc'
          refine ⟨uu, ?_, g2⟩
          have hq := (List.getElem?_eq_some_iff.1 g1).1
          have : es.length * k ≤ i' * k := Nat.mul_le_mul_right k (by omega)
          have e3 : (i' - es.length) * k = i' * k - es.length * k := Nat.sub_mul _ _ _
          rw [e3] at g1 hq
          rw [if_neg (by omega), if_pos (by omega)]
          rw [show i' * k + j' - es.length * k = i' * k - es.length * k + j' from by omega]; exact g1
  · -- a new block
    have hold : ∃ olds : List Value, Row G k es olds ∧ (Builtin.firstCells k es.length (.slice a es.length (ν κ).2)).run P { w with drawn := w.drawn + 1 } = .ok olds.toArray { w with drawn := w.drawn + 1 } := by
      by_cases hc0 : (ν κ).2 = 0
      · have hes : es = [] := by cases es with | nil => rfl | cons => simp at hcap; omega
        subst hes
        exact ⟨[], Row.nil G k, run_firstCells_0⟩
      · have ha' := ha hc0
        subst ha'
        obtain ⟨us, el, hb, hcu, hu⟩ := hobj hc0
        have hle' : es.length * k ≤ (ν κ).2 * k := Nat.mul_le_mul_right k hle
        refine ⟨us.toList.take (es.length * k), ⟨by simp; omega, hek, fun i j c hc => ?_⟩, run_firstCells_sl (by simp; omega) fun j u hj => ?_⟩
        · obtain ⟨uu, g1, g2⟩ := hu i j c hc
          refine ⟨uu, ?_, g2⟩
          cases h : es[i]? with
          | none => rw [h] at hc; simp at hc
          | some q =>
            rw [h] at hc; simp only [Option.bind_some] at hc
            have hi' := (List.getElem?_eq_some_iff.1 h).1
            have hj' : j < k := by rw [← hek q (List.mem_of_getElem? h)]; exact (List.getElem?_eq_some_iff.1 hc).1
            have : (i + 1) * k ≤ es.length * k := Nat.mul_le_mul_right k hi'
            rw [Nat.add_mul, Nat.one_mul] at this
            rw [List.getElem?_take, if_pos (by omega)]; simpa using g1
        · rw [List.getElem?_take] at hj
          split at hj
          · rw [Nat.zero_add]; exact cell_of_blk hb (by simpa using hj)
          · cases hj
    obtain ⟨olds, hro, hold⟩ := hold
    have hnew' : (Builtin.firstCells k news.length (.slice b news.length cap2)).run P { w with drawn := w.drawn + 1 } = .ok us2.toArray { w with drawn := w.drawn + 1 } := by
      rw [e2'']
      rw [← e2'']
      cases hn : news with
      | nil => subst hn; have hus : us2 = [] := by { have := hrow.1; simpa using this }; subst hus; exact run_firstCells_0
      | cons c0 cs0 =>
        have h2c := h2
        cases h2c with
        | sl blk off uf hc hk ha3 hg hr3 =>
          have hne : news ≠ [] := by rw [hn]; simp
          have := ha3 hne
          subst this
          rw [← hn]
          have hx : (Builtin.firstCells k news.length (.slice (some ⟨blk, off, none⟩) news.length cap2)).run P w = .ok us2.toArray w := hfc
          have hl2 := hrow.1
          have hcell : ∀ (j : Nat), j < news.length * k → w.cell? ⟨blk, off + j, none⟩ = some (uf j) := fun j hj => hS.cell (hg j hj)
          have hfs : (Builtin.firstCells k news.length (.slice (some ⟨blk, off, none⟩) news.length cap2)).run P w = .ok ((List.range (news.length * k)).map uf).toArray w :=
            run_firstCells_sl (by simp) fun j u hj => by
              rw [List.getElem?_map] at hj
              cases hq : (List.range (news.length * k))[j]? with
              | none => rw [hq] at hj; cases hj
              | some q =>
                rw [hq] at hj
                obtain ⟨q1, q2⟩ := List.getElem?_eq_some_iff.1 hq
                simp at q2; subst q2
                simp only [Option.map_some, Option.some.injEq] at hj; subst hj
                exact hcell j (by simpa using q1)
          rw [hfs] at hx
          simp only [Result.ok.injEq, and_true] at hx
          rw [← hx]
          exact run_firstCells_sl (by simp) fun j u hj => by
              rw [List.getElem?_map] at hj
              cases hq : (List.range (news.length * k))[j]? with
              | none => rw [hq] at hj; cases hj
              | some q =>
                rw [hq] at hj
                obtain ⟨q1, q2⟩ := List.getElem?_eq_some_iff.1 hq
                simp at q2; subst q2
                simp only [Option.map_some, Option.some.injEq] at hj; subst hj
                exact (hS.draw (w.drawn + 1)).cell (hg j (by simpa using q1))
    obtain ⟨nc, rest, hnc, hrest, hr⟩ := hap.2 (by omega) hroom.1 (by have : IntKind.i64.max = 9223372036854775807 := rfl; omega) _ hold hnew'
    have hboth := hro.append hrow
    have hlb := hboth.1
    have hpos : nc ≠ 0 := by omega
    have hgl : ∀ r, (growW w (.cells (olds.toArray ++ us2.toArray ++ rest) e)).heap[r]? = if r = w.heap.size then some (.cells (olds.toArray ++ us2.toArray ++ rest) e) else w.heap[r]? := by
      intro r; simp only [growW, Array.getElem?_push]
    have hfresh := hS.fresh (Nat.le_refl w.heap.size)
    refine ⟨ν.set d (w.heap.size, nc), _, _, hr, fun κ' h => Pl.set_ne _ _ h, ⟨some ⟨w.heap.size, 0, none⟩, by rw [Pl.set_self]; simp, by rw [Pl.set_self]; simpa using hnc, fun _ => by rw [Pl.set_self]⟩, ?_,
      ⟨by rw [Pl.set_self]; simpa using hnc, hboth.2.1, fun _ => ⟨olds.toArray ++ us2.toArray ++ rest, e, by rw [Pl.set_self, hgl]; simp, ?_, ?_⟩⟩, fun _ => ⟨by rw [Pl.set_self]; exact hfresh, by rw [Pl.set_self]; simp [growW], Or.inr (by rw [Pl.set_self]; exact Nat.le_refl _)⟩, ?_⟩
    · intro r hr
      have hlt := hS.lt hr
      obtain ⟨vs, el, fr, q1, q2⟩ := hS r hr
      exact ⟨vs, el, fr, by rw [hgl, if_neg (by omega)]; exact q1, q2⟩
    · rw [Pl.set_self]
      simp only [Array.size_append, List.size_toArray]
      have e4 : (nc - (es.length + news.length)) * k = nc * k - (es.length + news.length) * k := Nat.sub_mul _ _ _
      have e5 : (es.length + news.length) * k ≤ nc * k := Nat.mul_le_mul_right k hnc
      simp only [List.length_append] at hlb
      omega
    · intro i' j' c' hc'
      obtain ⟨uu, g1, g2⟩ := hboth.2.2 i' j' c' hc'
      refine ⟨uu, ?_, g2⟩
      have hq := (List.getElem?_eq_some_iff.1 g1).1
      rw [← Array.getElem?_toList]
      simp only [Array.toList_append]
      rw [List.getElem?_append_left hq]; exact g1
    · exact ⟨by simp [growW], fun r hr _ => by rw [hgl, if_neg (by omega)], fun _ _ _ => rfl, G.le_refl, rfl, rfl, rfl⟩

theorem R.appH {t2 e e2 k bt : Nat} {κ : Key} {i : TypeInfo} {zv : Value} {es news : List (List PC)} (ht : P.underlying t = some (.slice e)) (ht2 : P.underlying t2 = some (.slice e2)) (hs : ∀ w, (sizeOf e).run P w = .ok k w)
    (hi : ∀ w, (typeInfo e).run P w = .ok i w) (hbt : i.bytes = bt) (hz : ∀ w, (zeroValue e).run P w = .ok zv w) (hzs : zv.cells.size = k)
    (hg : GOk ops F ⟨some d, .call ⟨.builtin .append, #[x, y], #[t, t2]⟩, ty, pos, aft, g⟩ false) (hd : Nat.blt d n = true) (hx : ov F.fn x = some (vC (.hs κ es.length))) (hy : ov F.fn y = some (vL k news))
    (hb : B.fn κ = some (.hot k es)) (hne : Nat.beq κ d = false) (hroom : (es.length + news.length) * bt ≤ 140737488355328 ∧ es.length + news.length ≤ 9223372036854775807)
    (h : Run P ops n os ((d, vC (.hs d (es ++ news).length)) :: F) ((d, some (.hot k (es ++ news))) :: (κ, none) :: B)
      (evs ++ [⟨⟨some d, .call ⟨.builtin .append, #[x, y], #[t, t2]⟩, ty, pos, aft, g⟩, false, opFs [(x, vC (.hs κ es.length)), (y, vL k news)], [(κ, some (.hot k es))], vC (.hs d (es ++ news).length), [(d, some (.hot k (es ++ news))), (κ, none)], [d], false⟩]) K) :
    Run P ops n (⟨some d, .call ⟨.builtin .append, #[x, y], #[t, t2]⟩, ty, pos, aft, g⟩ :: os) F B evs K := by
  have hne' : κ ≠ d := fun e => by subst e; simp at hne
  have hfn : ∀ κ' o, BL.fn [(d, some (AO.hot k (es ++ news))), (κ, none)] κ' = some o → κ' = d ∧ o = .hot k (es ++ news) := by
    intro κ' o h
    simp only [BL.fn, look] at h
    split at h
    · rename_i e; simp only [Option.join_some, Option.some.injEq] at h; exact ⟨e.symm, h.symm⟩
    · split at h <;> simp at h
  refine Run.op [(x, vC (.hs κ es.length)), (y, vL k news)] (B1 κ (.hot k es)) [(d, some (.hot k (es ++ news))), (κ, none)] (vC (.hs d (es ++ news).length)) [d] false hg (fun d' h' => by cases h'; simpa using hd) ⟨hx, hy, trivial⟩
    (fun κ' o h => by obtain ⟨rfl, rfl⟩ := B1_fn h; exact hb) (fun κ' o h => by obtain ⟨rfl, rfl⟩ := B1_fn h; simp [BL.dom]) (fun h => by cases h) ?_ (by simpa [Ev.F, Ev.B, B1] using h)
  intro G ν a w hS hr hB
  obtain ⟨ν', v, w', h1, h2, h3, h4, h5, h6, h7⟩ := append_core (P := P) (ty := ty) ht ht2 hs hi hbt hz hzs hS hr.1 hr.2.1 (hB.obj κ _ (B1_self _ _)) (hB.free κ _ (B1_self _ _) rfl) (hB.lt κ _ (B1_self _ _)) hroom d
  have hrun : (execOp a.eval ⟨some d, .call ⟨.builtin .append, #[x, y], #[t, t2]⟩, ty, pos, aft, g⟩).run P w = .ok (.value v) w' := by
    simp [execOp, resolve, invoke, builtin, Sem.run_bind, Result.andThen, h1, Sem.run, Pure.pure]
  unfold Oper.wp
  rw [hrun]
  refine ⟨G, ν', v, rfl, h3, h4, ?_, h7.mono fun r _ hr => ⟨κ, _, B1_self _ _, hr.1, hr.2.symm⟩, fun κ' hκ => h2 κ' (by simpa using hκ), fun κ' o ho hl => ?_⟩
  · refine ⟨fun κ' o ho => ?_, fun κ' o ho _ hl => ?_, fun κ' o ho hl => ?_, fun κ₁ κ₂ o₁ o₂ h₁ h₂ hnn => ?_⟩
    · obtain ⟨rfl, rfl⟩ := hfn _ _ ho; exact h5
    · obtain ⟨rfl, rfl⟩ := hfn _ _ ho; exact (h6 hl).1
    · obtain ⟨rfl, rfl⟩ := hfn _ _ ho; exact (h6 hl).2.1
    · obtain ⟨rfl, rfl⟩ := hfn _ _ h₁
      obtain ⟨rfl, rfl⟩ := hfn _ _ h₂
      exact (hnn rfl).elim
  · obtain ⟨rfl, rfl⟩ := hfn _ _ ho
    rcases (h6 hl).2.2 with ⟨q1, q2⟩ | q
    · exact Or.inl ⟨κ, _, B1_self _ _, q1, q2.symm⟩
    · exact Or.inr q

/-- an append to a slice that is nil -/
theorem R.appN {t2 e e2 k bt : Nat} {i : TypeInfo} {zv : Value} {news : List (List PC)} (ht : P.underlying t = some (.slice e)) (ht2 : P.underlying t2 = some (.slice e2)) (hs : ∀ w, (sizeOf e).run P w = .ok k w)
    (hi : ∀ w, (typeInfo e).run P w = .ok i w) (hbt : i.bytes = bt) (hz : ∀ w, (zeroValue e).run P w = .ok zv w) (hzs : zv.cells.size = k)
    (hg : GOk ops F ⟨some d, .call ⟨.builtin .append, #[x, y], #[t, t2]⟩, ty, pos, aft, g⟩ false) (hd : Nat.blt d n = true) (hx : ov F.fn x = some (vV (.slice none 0 0))) (hy : ov F.fn y = some (vL k news))
    (hroom : news.length * bt ≤ 140737488355328 ∧ news.length ≤ 9223372036854775807)
    (h : Run P ops n os ((d, vC (.hs d news.length)) :: F) ((d, some (.hot k news)) :: B)
      (evs ++ [⟨⟨some d, .call ⟨.builtin .append, #[x, y], #[t, t2]⟩, ty, pos, aft, g⟩, false, opFs [(x, vV (.slice none 0 0)), (y, vL k news)], [], vC (.hs d news.length), [(d, some (.hot k news))], [d], false⟩]) K) :
    Run P ops n (⟨some d, .call ⟨.builtin .append, #[x, y], #[t, t2]⟩, ty, pos, aft, g⟩ :: os) F B evs K := by
  refine Run.op [(x, vV (.slice none 0 0)), (y, vL k news)] [] (B1 d (.hot k news)) (vC (.hs d news.length)) [d] false hg (fun d' h' => by cases h'; simpa using hd) ⟨hx, hy, trivial⟩
    (fun κ' o h => (noB h).elim) (fun κ' o h => (noB h).elim) (fun h => by cases h) ?_ (by simpa [Ev.F, Ev.B, B1] using h)
  intro G ν a w hS hr hB
  have e1 := rep_v hr.1
  -- a place that is empty, at the new key
  have hν0 : (ν.set d (0, 0)) d = (0, 0) := Pl.set_self _ _ _
  obtain ⟨ν', v, w', h1, h2, h3, h4, h5, h6, h7⟩ := append_core (P := P) (ty := ty) (ν := ν.set d (0, 0)) (κ := d) (es := []) (v1 := .slice none 0 0) (v2 := a.eval y) (news := news) ht ht2 hs hi hbt hz hzs hS
    ⟨none, by rw [hν0]; rfl, by rw [hν0]; simp, fun h => by rw [hν0] at h; exact (h rfl).elim⟩ hr.2.1 ⟨by simp, by simp, fun h => by rw [hν0] at h; exact (h rfl).elim⟩
    (fun h => by rw [hν0] at h; exact (h rfl).elim) (fun h => by rw [hν0] at h; exact (h rfl).elim) (by simpa using hroom) d
  have hrun : (execOp a.eval ⟨some d, .call ⟨.builtin .append, #[x, y], #[t, t2]⟩, ty, pos, aft, g⟩).run P w = .ok (.value v) w' := by
    rw [← e1] at h1
    simp [execOp, resolve, invoke, builtin, Sem.run_bind, Result.andThen, h1, Sem.run, Pure.pure]
  unfold Oper.wp
  rw [hrun]
  refine ⟨G, ν', v, rfl, h3, h4, B1_sat h5 (fun hl => (h6 hl).1) (fun hl => (h6 hl).2.1), h7.mono fun r _ hr => by rw [hν0] at hr; exact (hr.1 rfl).elim, fun κ' hκ => ?_, fun κ' o ho hl => ?_⟩
  · have hne : κ' ≠ d := by simpa using hκ
    rw [h2 κ' hne, Pl.set_ne _ _ hne]
  · obtain ⟨rfl, rfl⟩ := B1_fn ho
    rcases (h6 hl).2.2 with ⟨q1, _⟩ | q
    · rw [hν0] at q1; exact (q1 rfl).elim
    · exact Or.inr q

end
end Go.Abs
