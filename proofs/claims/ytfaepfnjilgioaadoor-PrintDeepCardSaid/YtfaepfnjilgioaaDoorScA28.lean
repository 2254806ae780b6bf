/-
  From the form's readings to the abstract reading of worlds: arguments.
-/
import Derived.Test.YtfaepfnjilgioaaDoorScA27
import Derived.ProofKit
import Derived.LaidMore
import Derived.OpenShut
import Derived.Stop.Joined
set_option linter.all false
set_option linter.unusedSimpArgs false
set_option linter.unusedVariables false
namespace Go.Abs
open Go

/-- all cells frozen -/
def G0 (w : World) : Frz := fun b => match w.heap[b]? with
  | some (.cells vs _ _) => vs.toList
  | _ => []
theorem G0_cells {w : World} {b : Nat} {vs : Array Value} {e : TypeId} {fr : Nat × Nat} (h : w.heap[b]? = some (.cells vs e fr)) : G0 w b = vs.toList := by
  simp only [G0, h]
theorem Sat.all (w : World) : Sat (G0 w) w := by
  intro b hb
  unfold G0 at hb
  split at hb
  · rename_i vs e fr h
    exact ⟨vs, e, fr, h, by rw [G0_cells h]; exact List.prefix_refl _⟩
  · exact (hb rfl).elim
theorem G0_cell {w : World} {b i : Nat} {v : Value} (h : w.cell? ⟨b, i, none⟩ = some v) : (G0 w b)[i]? = some v := by
  unfold World.cell? at h
  split at h
  · rename_i c t fr hb
    simp at h
    rw [G0_cells hb]; simpa using h
  · cases h

/-- Every reading of a type is of some thing that is encoded in k cells. -/
structure Rd (P : Program) (t : TypeId) (k : Nat) {α : Type} (enc : α → List PC) (ok : α → Prop) : Prop where
  len : ∀ a, (enc a).length = k
  cells : P.cellsOf t = k
  get : ∀ {H : Type} (eH : TypeId × Value → H) (w : World) (base : Nat) (sp : Nat → Bool) (held : Bool) (fuel : Nat) (cs : List Value) (x : DataW H × List MemPlace),
    DataW.trod eH P w base sp held fuel t cs = some x → (x.1.weights P t).all (· ≤ reachBytes) = true → ∃ a, All2 (RepP (G0 w)) (enc a) cs ∧ ok a

theorem wf_i64 {n : Int} (h : (Lit.int .i64 n).wf = true) : I64 n := by
  simp [Lit.wf, IntKind.has, IntKind.min, IntKind.max, IntKind.signed, IntKind.bits] at h
  unfold I64; omega

variable {P : Program} {t : TypeId}
theorem Rd.int {kd : IntKind} (hu : P.underlying t = some (.int kd)) (hc : P.cellsOf t = 1) : Rd P t 1 (fun n : Int => [.v (.int kd n)]) (fun n => (Lit.int kd n).wf = true) where
  len _ := rfl
  cells := hc
  get _ _ _ _ _ _ _ _ h _ := by
    obtain ⟨n, rfl, rfl, hw⟩ := DataW.trod_int hu h
    exact ⟨n, ⟨.v _ rfl, trivial⟩, hw⟩
theorem Rd.bool (hu : P.underlying t = some .bool) (hc : P.cellsOf t = 1) : Rd P t 1 (fun b : Bool => [.v (.bool b)]) (fun _ => True) where
  len _ := rfl
  cells := hc
  get _ _ _ _ _ _ _ _ h _ := by
    obtain ⟨n, rfl, rfl⟩ := DataW.trod_bool hu h
    exact ⟨n, ⟨.v _ rfl, trivial⟩, trivial⟩
theorem Rd.str (hu : P.underlying t = some .string) (hc : P.cellsOf t = 1) : Rd P t 1 (fun s : ByteArray => [.v (.string s)]) (fun s => s.size ≤ reachBytes) where
  len _ := rfl
  cells := hc
  get _ _ _ _ _ _ _ _ h hw := by
    obtain ⟨s, rfl, rfl, _⟩ := DataW.trod_string hu h
    refine ⟨s, ⟨.v _ rfl, trivial⟩, ?_⟩
    simpa [DataW.weights] using hw

theorem weights_all_mem {H : Type} {e : TypeId} : ∀ {l : List (DataW H)}, (DataW.weightsAll P e l).all (· ≤ reachBytes) = true → ∀ d ∈ l, (d.weights P e).all (· ≤ reachBytes) = true
  | [], _, d, hd => by simp at hd
  | x :: l, h, d, hd => by
    rw [DataW.weightsAll, List.all_append, Bool.and_eq_true] at h
    rcases List.mem_cons.1 hd with rfl | hd
    · exact h.1
    · exact weights_all_mem h.2 d hd

theorem cells_get {w : World} {base : Nat} {a : Addr} {n : Nat} {cs : List Value} (h : w.cells? base a n = some cs) (hn : 0 < n) :
    a.spot = none ∧ cs.length = n ∧ ∀ (j : Nat) (v : Value), cs[j]? = some v → w.cell? ⟨a.block, a.off + j, none⟩ = some v := by
  unfold World.cells? at h
  split at h
  · have hl := mapM_some_length h
    have hg := mapM_some_get h
    simp only [List.length_range] at hl
    have h0 := hg 0 0 (by simp [hn])
    obtain ⟨c0, hc0⟩ : ∃ c, cs[0]? = some c := ⟨cs[0], List.getElem?_eq_getElem (by omega)⟩
    rw [hc0] at h0
    have hsp : a.spot = none := by
      simp only [Addr.add, if_true, World.cell?] at h0
      cases hs : a.spot with
      | none => rfl
      | some _ =>
        rw [hs] at h0
        split at h0 <;> simp at h0
    refine ⟨hsp, hl, fun j v hj => ?_⟩
    have hjn : j < n := by rw [← hl]; exact (List.getElem?_eq_some_iff.1 hj).1
    have := hg j j (by simp [hjn])
    rw [hj] at this
    rw [← this]
    congr 1
    unfold Addr.add
    split
    · rename_i e; subst e; cases a; simp_all
    · rfl
  · cases h

theorem Rd.slice {e : TypeId} {k : Nat} {α : Type} {enc : α → List PC} {ok : α → Prop} (hr : Rd P e k enc ok) (hk : 0 < k) (hu : P.underlying t = some (.slice e)) (hc : P.cellsOf t = 1) :
    Rd P t 1 (fun l : List α => [.sl k (l.map enc)]) (fun l => l.length * P.bytesOf e ≤ reachBytes ∧ ∀ a ∈ l, ok a) where
  len _ := rfl
  cells := hc
  get eH w base sp held fuel cs x h hw := by
    rcases DataW.trod_slice hu h with ⟨rfl, rfl⟩ | ⟨a, len, cap, elems, rest, n, rfl, rfl, rfl, hb, hle, _, hel, hget, _⟩
    · exact ⟨[], ⟨.sl 0 0 (fun _ => undef) (by simp) (by simp) (fun h => (h rfl).elim) (by simp) (by simp), trivial⟩, by simp, by simp⟩
    · simp only [DataW.weights, hu, List.all_cons, List.all_append, Bool.and_eq_true, decide_eq_true_eq] at hw
      obtain ⟨hw1, hw2, _⟩ := hw
      -- each element
      have each : ∀ i, i < len → ∃ x cs', w.cells? base (a.add (i * P.cellsOf e)) (P.cellsOf e) = some cs' ∧ All2 (RepP (G0 w)) (enc x) cs' ∧ ok x := by
        intro i hi
        obtain ⟨y, hy⟩ : ∃ y, elems[i]? = some y := ⟨elems[i], List.getElem?_eq_getElem (by omega)⟩
        have h1 := hget i hi
        rw [hy] at h1
        obtain ⟨cs', g1, g2⟩ := Option.bind_eq_some_iff.1 h1
        obtain ⟨x, g3, g4⟩ := hr.get eH w base sp held n cs' y g2 (weights_all_mem hw2 y.1 (List.mem_map.2 ⟨y, List.mem_of_getElem? hy, rfl⟩))
        exact ⟨x, cs', g1, g3, g4⟩
      have list : ∀ m, m ≤ len → ∃ l : List α, l.length = m ∧ (∀ x ∈ l, ok x) ∧ ∀ (i : Nat) (x : α), l[i]? = some x → ∃ cs', w.cells? base (a.add (i * P.cellsOf e)) (P.cellsOf e) = some cs' ∧ All2 (RepP (G0 w)) (enc x) cs' := by
        intro m
        induction m with
        | zero => intro _; exact ⟨[], rfl, by simp, by simp⟩
        | succ m ih =>
          intro hm
          obtain ⟨l, h1, h2, h3⟩ := ih (by omega)
          obtain ⟨x, cs', g1, g2, g3⟩ := each m (by omega)
          refine ⟨l ++ [x], by simp [h1], fun y hy => ?_, fun i y hy => ?_⟩
          · rcases List.mem_append.1 hy with hy | hy
            · exact h2 y hy
            · simp at hy; subst hy; exact g3
          · by_cases hi : i < l.length
            · rw [List.getElem?_append_left hi] at hy
              exact h3 i y hy
            · rw [List.getElem?_append_right (by omega)] at hy
              have : i = m := by
                have := (List.getElem?_eq_some_iff.1 hy).1
                simp at this; omega
              subst this
              simp [h1] at hy
              subst hy
              exact ⟨cs', g1, g2⟩
      obtain ⟨l, hl, hok, hcs⟩ := list len (Nat.le_refl _)
      refine ⟨l, ⟨?_, trivial⟩, ?_, hok⟩
      · have hlen : len = (l.map enc).length := by simp [hl]
        rw [hr.cells] at hcs
        rw [hlen]
        have spot : l ≠ [] → a.spot = none := by
          intro hne
          obtain ⟨x, hx⟩ : ∃ x, l[0]? = some x := ⟨l[0]'(List.length_pos_iff.2 hne), List.getElem?_eq_getElem _⟩
          obtain ⟨cs', g1, _⟩ := hcs 0 x hx
          have := (cells_get g1 hk).1
          simpa [Addr.add] using this
        have cellAt : ∀ i j c, ((l.map enc)[i]?).bind (·[j]?) = some c → ∃ v, w.cell? ⟨a.block, a.off + (i * k + j), none⟩ = some v ∧ RepP (G0 w) c v := by
          intro i j c hc
          obtain ⟨es, he, hj⟩ := Option.bind_eq_some_iff.1 hc
          rw [List.getElem?_map] at he
          obtain ⟨x, hx, rfl⟩ := Option.map_eq_some_iff.1 he
          obtain ⟨cs', g1, g2⟩ := hcs i x hx
          obtain ⟨v, hv, hrep⟩ := g2.get j c hj
          have hsp := spot (fun e => by rw [e] at hx; simp at hx)
          obtain ⟨_, _, g4⟩ := cells_get g1 hk
          have := g4 j v hv
          refine ⟨v, ?_, hrep⟩
          rw [← this]
          congr 1
          unfold Addr.add
          split
          · rename_i e; rw [e]; simp
          · simp; omega
        refine .sl a.block a.off (fun i => (w.cell? ⟨a.block, a.off + i, none⟩).getD undef) (by simpa [hl] using hle) (fun es hes => ?_) (fun hne => ?_) (fun i hi => ?_) (fun i j c hc => ?_)
        · obtain ⟨x, _, rfl⟩ := List.mem_map.1 hes; exact hr.len x
        · have hs := spot (fun e => hne (by rw [e]; rfl))
          obtain ⟨ab, ao, as⟩ := a
          have hs' : as = none := hs
          rw [hs']
        · have hi' : i / k < l.length := Nat.div_lt_of_lt_mul (by rw [List.length_map, Nat.mul_comm] at hi; exact hi)
          have hm : i % k < k := Nat.mod_lt _ hk
          have hx : (l.map enc)[i / k]? = some (enc l[i / k]) := by rw [List.getElem?_map, List.getElem?_eq_getElem hi']; rfl
          have hj : (enc l[i / k])[i % k]? = some ((enc l[i / k])[i % k]'(by rw [hr.len]; exact hm)) := List.getElem?_eq_getElem _
          obtain ⟨v, hv, _⟩ := cellAt (i / k) (i % k) _ (by rw [hx]; exact hj)
          have e : i / k * k + i % k = i := by rw [Nat.mul_comm]; exact Nat.div_add_mod i k
          rw [e] at hv
          rw [hv]; exact G0_cell hv
        · obtain ⟨v, hv, hrep⟩ := cellAt i j c hc
          rw [hv]; exact hrep
      · rw [hl]
        rw [List.length_map] at hw1
        have : elems.length * P.bytesOf e ≤ (elems.length + (rest.map (·.1)).length) * P.bytesOf e := Nat.mul_le_mul_right _ (by omega)
        rw [hel] at this hw1
        omega

/-! ### structs: fields, one behind the other -/
structure RdF (P : Program) (fs : List Field) (o k : Nat) {α : Type} (enc : α → List PC) (ok : α → Prop) : Prop where
  len : ∀ a, (enc a).length = k
  get : ∀ {H : Type} (eH : TypeId × Value → H) (w : World) (base : Nat) (sp : Nat → Bool) (held : Bool) (n : Nat) (cs : List Value) (ds : List (DataW H × List MemPlace)),
    o + k = cs.length → ds.length = fs.length → (∀ (i : Nat) (f : Field), fs[i]? = some f → DataW.trod eH P w base sp held n f.type ((cs.drop f.offset).take (P.cellsOf f.type)) = ds[i]?) →
    (DataW.weightsEach P (fs.map (·.type)) (ds.map (·.1))).all (· ≤ reachBytes) = true → ∃ a, All2 (RepP (G0 w)) (enc a) (cs.drop o) ∧ ok a

theorem RdF.nil (o : Nat) : RdF P [] o 0 (fun _ : Unit => []) (fun _ => True) where
  len _ := rfl
  get _ w _ _ _ _ cs _ h _ _ _ := ⟨(), by rw [List.drop_eq_nil_of_le (by omega)]; trivial, trivial⟩

theorem All2.append' {α β : Type} {R : α → β → Prop} {as cs : List α} {l : List β} {n : Nat} (h : All2 R as (l.take n)) (h' : All2 R cs (l.drop n)) : All2 R (as ++ cs) l := by
  have := h.append h'
  rwa [List.take_append_drop] at this

theorem RdF.cons {f : Field} {fs : List Field} {o k k' o' : Nat} {α β : Type} {enc : α → List PC} {ok : α → Prop} {enc' : β → List PC} {ok' : β → Prop} (hf : Rd P f.type k enc ok) (ho : f.offset = o)
    (h : RdF P fs o' k' enc' ok') (ho' : o + k = o') : RdF P (f :: fs) o (k + k') (fun x : α × β => enc x.1 ++ enc' x.2) (fun x => ok x.1 ∧ ok' x.2) where
  len x := by rw [List.length_append, hf.len, h.len]
  get eH w base sp held n cs ds hl hd hg hw := by
    subst ho ho'
    match ds, hd with
    | d :: ds, hd =>
      have h0 := hg 0 f rfl
      simp only [List.getElem?_cons_zero] at h0
      rw [List.map_cons, List.map_cons, DataW.weightsEach, List.all_append, Bool.and_eq_true] at hw
      obtain ⟨a, h1, h2⟩ := hf.get eH w base sp held n _ d h0 hw.1
      obtain ⟨b, h3, h4⟩ := h.get eH w base sp held n cs ds (by omega) (by simpa using hd) (fun i g hi => by simpa using hg (i + 1) g (by simpa using hi)) hw.2
      refine ⟨(a, b), ?_, h2, h4⟩
      rw [hf.cells] at h1
      rw [← List.drop_drop] at h3
      exact h1.append' h3

theorem Rd.struct {fs : Array Field} {k : Nat} {α : Type} {enc : α → List PC} {ok : α → Prop} (hu : P.underlying t = some (.struct fs)) (hc : P.cellsOf t = k) (h : RdF P fs.toList 0 k enc ok) : Rd P t k enc ok where
  len := h.len
  cells := hc
  get eH w base sp held fuel cs x hx hw := by
    obtain ⟨xs, n, rfl, rfl, hl, hn, hg⟩ := DataW.trod_struct hu hx
    simp only [DataW.weights, hu] at hw
    obtain ⟨a, h1, h2⟩ := h.get eH w base sp held n cs xs (by omega) (by simpa using hn) (fun i f hi => hg i f (by simpa using hi)) hw
    exact ⟨a, by simpa using h1, h2⟩

/-- another name for the thing read -/
theorem Rd.map {k : Nat} {α β : Type} {enc : α → List PC} {ok : α → Prop} {enc' : β → List PC} {ok' : β → Prop} (h : Rd P t k enc ok) (g : α → β) (he : ∀ a, enc' (g a) = enc a) (hok : ∀ a, ok a → ok' (g a)) (hl : ∀ b, (enc' b).length = k) : Rd P t k enc' ok' where
  len := hl
  cells := h.cells
  get eH w base sp held fuel cs x hx hw := by
    obtain ⟨a, h1, h2⟩ := h.get eH w base sp held fuel cs x hx hw
    exact ⟨g a, by rw [he]; exact h1, hok a h2⟩

/-- an array of four -/
theorem Rd.arr4 {e : TypeId} {α : Type} {enc : α → List PC} {ok : α → Prop} (hr : Rd P e 1 enc ok) (hu : P.underlying t = some (.array 4 e)) (hc : P.cellsOf t = 4) :
    Rd P t 4 (fun x : α × α × α × α => enc x.1 ++ (enc x.2.1 ++ (enc x.2.2.1 ++ enc x.2.2.2))) (fun x => ok x.1 ∧ ok x.2.1 ∧ ok x.2.2.1 ∧ ok x.2.2.2) where
  len x := by simp [hr.len]
  cells := hc
  get eH w base sp held fuel cs x hx hw := by
    obtain ⟨xs, m, rfl, rfl, hl, hn, hg⟩ := DataW.trod_array hu hx
    simp only [DataW.weights, hu] at hw
    rw [hc] at hl
    have each : ∀ i, i < 4 → ∃ a, All2 (RepP (G0 w)) (enc a) ((cs.drop i).take 1) ∧ ok a := by
      intro i hi
      obtain ⟨y, hy⟩ : ∃ y, xs[i]? = some y := ⟨xs[i], List.getElem?_eq_getElem (by omega)⟩
      have h1 := hg i hi
      rw [hy, hr.cells, Nat.mul_one] at h1
      exact hr.get eH w base sp held m _ y h1 (weights_all_mem hw y.1 (List.mem_map.2 ⟨y, List.mem_of_getElem? hy, rfl⟩))
    obtain ⟨a0, p0, q0⟩ := each 0 (by omega)
    obtain ⟨a1, p1, q1⟩ := each 1 (by omega)
    obtain ⟨a2, p2, q2⟩ := each 2 (by omega)
    obtain ⟨a3, p3, q3⟩ := each 3 (by omega)
    match cs, hl with
    | [c0, c1, c2, c3], _ =>
      refine ⟨(a0, a1, a2, a3), ?_, q0, q1, q2, q3⟩
      simp only [List.drop_zero, List.take_succ_cons, List.take_zero, List.drop_succ_cons] at p0 p1 p2 p3
      exact p0.append (p1.append (p2.append p3))

/-! ### arguments -/
theorem okWide_slice {w : World} {r : Reach} {b0 : Nat} {v : Value} {e : TypeId} (hu : P.underlying t = some (.slice e)) (h : Value.okWide P w r b0 t v) : v.cells.toList = [v] := by
  unfold Value.okWide at h
  simp only [hu] at h
  unfold Cell.okWide at h
  simp only [hu] at h
  unfold Cell.ok at h
  simp only [hu] at h
  cases v <;> simp at h <;> rfl

/-- a struct -/
theorem Rd.argS {k : Nat} {α : Type} {enc : α → List PC} {ok : α → Prop} (hr : Rd P t k enc ok) {fs : Array Field} (hu : P.underlying t = some (.struct fs)) {H : Type} {eH : TypeId × Value → H} {w : World} {r : Reach} {b0 base : Nat} {sp : Nat → Bool} {held : Bool} {v : Value} {d : DataW H} {ps : List MemPlace}
    (hval : Value.okWide P w r b0 t v) (hd : DataW.Trod eH P w base sp held t v d ps) (hw : (d.weights P t).all (· ≤ reachBytes) = true) (ν : Pl) : ∃ a, RepS (G0 w) ν (.pag (enc a)) v ∧ ok a := by
  unfold Value.okWide at hval
  simp only [hu] at hval
  obtain ⟨cs, rfl, _⟩ := hval
  obtain ⟨fuel, hf⟩ := hd
  obtain ⟨a, h1, h2⟩ := hr.get eH w base sp held fuel _ _ hf hw
  exact ⟨a, ⟨cs, rfl, h1⟩, h2⟩
/-- a slice -/
theorem Rd.argL {α : Type} {pc : α → PC} {ok : α → Prop} {e : TypeId} (hr : Rd P t 1 (fun a => [pc a]) ok) (hu : P.underlying t = some (.slice e)) {H : Type} {eH : TypeId × Value → H} {w : World} {r : Reach} {b0 base : Nat} {sp : Nat → Bool} {held : Bool} {v : Value} {d : DataW H} {ps : List MemPlace}
    (hval : Value.okWide P w r b0 t v) (hd : DataW.Trod eH P w base sp held t v d ps) (hw : (d.weights P t).all (· ≤ reachBytes) = true) (ν : Pl) : ∃ a, RepS (G0 w) ν (.one (.p (pc a))) v ∧ ok a := by
  obtain ⟨fuel, hf⟩ := hd
  rw [okWide_slice hu hval] at hf
  obtain ⟨a, h1, h2⟩ := hr.get eH w base sp held fuel _ _ hf hw
  exact ⟨a, h1.1, h2⟩

/-- a world that keeps all but blocks that stay by themselves -/
theorem Keep.toBelow {X : Nat → Prop} {G G' : Frz} {w w' : World} (h : Keep X G w G' w') (hX : ∀ b, b < w.heap.size → X b → w'.heap[b]? = w.heap[b]?) : RowKit.Below w.heap.size w w' :=
  ⟨h.os, h.tape, h.output, h.size, fun b hb => by
    by_cases hx : X b
    · exact hX b hb hx
    · exact h.heap b hb hx⟩
end Go.Abs
