/-
  An abstract reading of worlds: which values stand for which plain data, with frozen rows, owned rows and boxes. No program in sight.
-/
import Derived.WalkKit
set_option linter.all false
set_option linter.unusedSimpArgs false
set_option linter.unusedVariables false
namespace Go.Abs
open Go

abbrev Key := Nat

/-- two lists, place by place -/
def All2 {α β : Type} (R : α → β → Prop) : List α → List β → Prop
  | [], [] => True
  | a :: as, b :: bs => R a b ∧ All2 R as bs
  | _, _ => False

theorem All2.len {α β : Type} {R : α → β → Prop} : ∀ {as : List α} {bs : List β}, All2 R as bs → as.length = bs.length
  | [], [], _ => rfl
  | _ :: as, _ :: bs, h => by simp [All2.len (as := as) (bs := bs) h.2]
  | [], _ :: _, h => h.elim
  | _ :: _, [], h => h.elim

theorem All2.mono {α β : Type} {R S : α → β → Prop} (hRS : ∀ a b, R a b → S a b) : ∀ {as : List α} {bs : List β}, All2 R as bs → All2 S as bs
  | [], [], _ => trivial
  | _ :: _, _ :: _, h => ⟨hRS _ _ h.1, All2.mono hRS h.2⟩
  | [], _ :: _, h => h.elim
  | _ :: _, [], h => h.elim

theorem All2.get {α β : Type} {R : α → β → Prop} : ∀ {as : List α} {bs : List β}, All2 R as bs → ∀ (i : Nat) (a : α), as[i]? = some a → ∃ b, bs[i]? = some b ∧ R a b
  | [], [], _, i, a, h => by simp at h
  | _ :: _, b :: _, h, 0, a, e => by simp at e; subst e; exact ⟨b, rfl, h.1⟩
  | _ :: _, _ :: _, h, i + 1, a, e => by
      have := All2.get h.2 i a (by simpa using e)
      simpa using this
  | [], _ :: _, h, _, _, _ => h.elim
  | _ :: _, [], h, _, _, _ => h.elim

theorem All2.of_get {α β : Type} {R : α → β → Prop} : ∀ {as : List α} {bs : List β}, as.length = bs.length → (∀ (i : Nat) (a : α) (b : β), as[i]? = some a → bs[i]? = some b → R a b) → All2 R as bs
  | [], [], _, _ => trivial
  | a :: as, b :: bs, hl, h => ⟨h 0 a b rfl rfl, All2.of_get (by simpa using hl) fun i x y hx hy => h (i + 1) x y (by simpa using hx) (by simpa using hy)⟩
  | [], _ :: _, hl, _ => by simp at hl
  | _ :: _, [], hl, _ => by simp at hl

theorem All2.append {α β : Type} {R : α → β → Prop} : ∀ {as : List α} {bs : List β} {cs : List α} {ds : List β}, All2 R as bs → All2 R cs ds → All2 R (as ++ cs) (bs ++ ds)
  | [], [], _, _, _, h => h
  | _ :: _, _ :: _, _, _, h, h' => ⟨h.1, All2.append h.2 h'⟩
  | [], _ :: _, _, _, h, _ => h.elim
  | _ :: _, [], _, _, h, _ => h.elim

theorem All2.set {α β : Type} {R : α → β → Prop} : ∀ {as : List α} {bs : List β}, All2 R as bs → ∀ (i : Nat) (a : α) (b : β), R a b → All2 R (as.set i a) (bs.set i b)
  | [], [], _, _, _, _, _ => trivial
  | _ :: _, _ :: _, h, 0, _, _, hr => ⟨hr, h.2⟩
  | _ :: _, _ :: _, h, i + 1, _, _, hr => ⟨h.1, All2.set h.2 i _ _ hr⟩
  | [], _ :: _, h, _, _, _, _ => h.elim
  | _ :: _, [], h, _, _, _, _ => h.elim

theorem All2.take {α β : Type} {R : α → β → Prop} : ∀ {as : List α} {bs : List β}, All2 R as bs → ∀ n, All2 R (as.take n) (bs.take n)
  | _, _, _, 0 => by simp [All2]
  | [], [], _, _ + 1 => trivial
  | _ :: _, _ :: _, h, n + 1 => ⟨h.1, All2.take h.2 n⟩
  | [], _ :: _, h, _ + 1 => h.elim
  | _ :: _, [], h, _ + 1 => h.elim

theorem All2.drop {α β : Type} {R : α → β → Prop} : ∀ {as : List α} {bs : List β}, All2 R as bs → ∀ n, All2 R (as.drop n) (bs.drop n)
  | _, _, h, 0 => h
  | [], [], _, _ + 1 => trivial
  | _ :: _, _ :: _, h, n + 1 => All2.drop h.2 n
  | [], _ :: _, h, _ + 1 => h.elim
  | _ :: _, [], h, _ + 1 => h.elim

/-- the value of one cell -/
def isCell : Value → Bool
  | .agg _ | .tuple _ => false
  | _ => true

/-- plain data of one cell: a value that leads nowhere, or a slice, told by its elements' cells -/
inductive PC where
  | v (x : Value)
  | sl (k : Nat) (es : List (List PC))

/-- what is frozen: of each block its first cells -/
abbrev Frz := Nat → List Value

def Frz.le (G G' : Frz) : Prop := ∀ b, G b <+: G' b
theorem Frz.le_refl (G : Frz) : G.le G := fun _ => List.prefix_refl _
theorem Frz.le_trans {G G' G'' : Frz} (h : G.le G') (h' : G'.le G'') : G.le G'' := fun b => (h b).trans (h' b)
theorem Frz.le_get {G G' : Frz} (h : G.le G') {b i : Nat} {v : Value} (e : (G b)[i]? = some v) : (G' b)[i]? = some v := by
  obtain ⟨t, ht⟩ := h b
  rw [← ht, List.getElem?_append_left]
  · exact e
  · exact (List.getElem?_eq_some_iff.1 e).1

inductive RepP (G : Frz) : PC → Value → Prop
  | v (x : Value) (h : isCell x = true) : RepP G (.v x) x
  | sl {k : Nat} {es : List (List PC)} {a : Option Addr} {cap : Nat} (blk off : Nat) (u : Nat → Value) (hc : es.length ≤ cap)
      (hk : ∀ e ∈ es, e.length = k) (ha : es ≠ [] → a = some ⟨blk, off, none⟩)
      (hg : ∀ i, i < es.length * k → (G blk)[off + i]? = some (u i))
      (hr : ∀ i j c, (es[i]?).bind (·[j]?) = some c → RepP G c (u (i * k + j))) : RepP G (.sl k es) (.slice a es.length cap)

theorem RepP.mono {G G' : Frz} (h : G.le G') {c : PC} {v : Value} (r : RepP G c v) : RepP G' c v := by
  induction r with
  | v x hx => exact .v x hx
  | sl blk off u hc hk ha hg _ ih => exact .sl blk off u hc hk ha (fun i hi => Frz.le_get h (hg i hi)) ih

theorem RepP.cell {G : Frz} {c : PC} {v : Value} (r : RepP G c v) : isCell v = true := by
  cases r with
  | v h => assumption
  | sl => rfl

/-- one cell: plain, or a pointer into a box or an owned row, an owned row itself, a map, a function value -/
inductive AC where
  | p (x : PC)
  | ptr (κ : Key) (off : Nat)
  | el (κ : Key) (k i j : Nat)
  | at_ (cs : List PC)
  | hs (κ : Key) (n : Nat)
  | mp (κ : Key)
  | clo (f : FuncId) (first : List (List PC)) (caps : List Key)

/-- where an object lies: its block, and (of an owned row) how many elements it has room for -/
abbrev Pl := Key → Nat × Nat

def RepC (G : Frz) (ν : Pl) : AC → Value → Prop
  | .p x, v => RepP G x v
  | .ptr κ off, v => v = .pointer (some ⟨(ν κ).1, off, none⟩)
  | .el κ k i j, v => v = .pointer (some ⟨(ν κ).1, i * k + j, none⟩)
  | .at_ cs, v => ∃ blk off, v = .pointer (some ⟨blk, off, none⟩) ∧ ∀ (j : Nat) (c : PC), cs[j]? = some c → ∃ u, (G blk)[off + j]? = some u ∧ RepP G c u
  | .hs κ n, v => ∃ a, v = .slice a n (ν κ).2 ∧ n ≤ (ν κ).2 ∧ ((ν κ).2 ≠ 0 → a = some ⟨(ν κ).1, 0, none⟩)
  | .mp κ, v => v = .map (some (ν κ).1)
  | .clo f first caps, v => ∃ vs, All2 (fun cs x => ∃ us, x = .agg us ∧ All2 (RepP G) cs us.toList) first vs ∧
      v = .func (.func f) vs.toArray (caps.map fun κ => .pointer (some ⟨(ν κ).1, 0, none⟩)).toArray

/-- the keys that a cell names -/
def AC.keys : AC → List Key
  | .p _ => []
  | .ptr κ _ => [κ]
  | .el κ _ _ _ => [κ]
  | .at_ _ => []
  | .hs κ _ => [κ]
  | .mp κ => [κ]
  | .clo _ _ caps => caps

theorem RepC.mono {G G' : Frz} {ν ν' : Pl} (h : G.le G') {c : AC} (hν : ∀ κ ∈ c.keys, ν' κ = ν κ) {v : Value} (r : RepC G ν c v) : RepC G' ν' c v := by
  cases c with
  | p x => exact RepP.mono h r
  | ptr κ off => simp only [AC.keys, List.mem_singleton, forall_eq] at hν; simp only [RepC] at *; rw [hν]; exact r
  | el κ k i j => simp only [AC.keys, List.mem_singleton, forall_eq] at hν; simp only [RepC] at *; rw [hν]; exact r
  | at_ cs =>
    obtain ⟨blk, off, e, hc⟩ := r
    exact ⟨blk, off, e, fun j c hj => let ⟨u, hu, hr⟩ := hc j c hj; ⟨u, Frz.le_get h hu, hr.mono h⟩⟩
  | hs κ n => simp only [AC.keys, List.mem_singleton, forall_eq] at hν; simp only [RepC] at *; rw [hν]; exact r
  | mp κ => simp only [AC.keys, List.mem_singleton, forall_eq] at hν; simp only [RepC] at *; rw [hν]; exact r
  | clo f first caps =>
    obtain ⟨vs, hv, e⟩ := r
    refine ⟨vs, hv.mono fun cs x ⟨us, hx, hu⟩ => ⟨us, hx, hu.mono fun _ _ hh => hh.mono h⟩, ?_⟩
    rw [e]
    congr 2
    exact (List.map_congr_left fun κ hκ => by rw [hν κ hκ])

theorem RepC.cell {G : Frz} {ν : Pl} {c : AC} {v : Value} (r : RepC G ν c v) : isCell v = true := by
  cases c with
  | p x => exact RepP.cell r
  | ptr κ off => simp only [RepC] at r; subst r; rfl
  | el κ k i j => simp only [RepC] at r; subst r; rfl
  | at_ cs => obtain ⟨_, _, e, _⟩ := r; subst e; rfl
  | hs κ n => obtain ⟨a, e, _⟩ := r; subst e; rfl
  | mp κ => simp only [RepC] at r; subst r; rfl
  | clo f first caps => obtain ⟨vs, _, e⟩ := r; subst e; rfl

/-- a value: one cell, or a struct or array -/
inductive SV where
  | one (c : AC)
  | agg (cs : List AC)
  | pag (cs : List PC)

def SV.keys : SV → List Key
  | .one c => c.keys
  | .agg cs => cs.flatMap AC.keys
  | .pag _ => []

def RepS (G : Frz) (ν : Pl) : SV → Value → Prop
  | .one c, v => RepC G ν c v
  | .agg cs, v => ∃ us, v = .agg us ∧ All2 (RepC G ν) cs us.toList
  | .pag cs, v => ∃ us, v = .agg us ∧ All2 (RepP G) cs us.toList

theorem All2.monoK {G G' : Frz} {ν ν' : Pl} (h : G.le G') : ∀ {cs : List AC} {us : List Value}, (∀ κ ∈ cs.flatMap AC.keys, ν' κ = ν κ) → All2 (RepC G ν) cs us → All2 (RepC G' ν') cs us
  | [], [], _, _ => trivial
  | c :: cs, _ :: _, hν, r => ⟨RepC.mono h (fun κ hκ => hν κ (by simp [hκ])) r.1, All2.monoK h (fun κ hκ => hν κ (by
      simp only [List.flatMap_cons, List.mem_append]; exact Or.inr hκ)) r.2⟩
  | [], _ :: _, _, r => r.elim
  | _ :: _, [], _, r => r.elim

theorem RepS.mono {G G' : Frz} {ν ν' : Pl} (h : G.le G') {c : SV} (hν : ∀ κ ∈ c.keys, ν' κ = ν κ) {v : Value} (r : RepS G ν c v) : RepS G' ν' c v := by
  cases c with
  | one c => exact RepC.mono h hν r
  | agg cs => obtain ⟨us, e, hu⟩ := r; exact ⟨us, e, All2.monoK h hν hu⟩
  | pag cs => obtain ⟨us, e, hu⟩ := r; exact ⟨us, e, hu.mono fun _ _ hh => hh.mono h⟩

/-- what a slot holds: nothing that is known, a value, or several (a call's results) -/
inductive AV where
  | any
  | s (x : SV)
  | tup (xs : List SV)

def AV.keys : AV → List Key
  | .any => []
  | .s x => x.keys
  | .tup xs => xs.flatMap SV.keys

def RepV (G : Frz) (ν : Pl) : AV → Value → Prop
  | .any, _ => True
  | .s x, v => RepS G ν x v
  | .tup xs, v => ∃ us, v = .tuple us ∧ All2 (RepS G ν) xs us.toList

theorem All2.monoS {G G' : Frz} {ν ν' : Pl} (h : G.le G') : ∀ {cs : List SV} {us : List Value}, (∀ κ ∈ cs.flatMap SV.keys, ν' κ = ν κ) → All2 (RepS G ν) cs us → All2 (RepS G' ν') cs us
  | [], [], _, _ => trivial
  | c :: cs, _ :: _, hν, r => ⟨RepS.mono h (fun κ hκ => hν κ (by simp [hκ])) r.1, All2.monoS h (fun κ hκ => hν κ (by
      simp only [List.flatMap_cons, List.mem_append]; exact Or.inr hκ)) r.2⟩
  | [], _ :: _, _, r => r.elim
  | _ :: _, [], _, r => r.elim

theorem RepV.mono {G G' : Frz} {ν ν' : Pl} (h : G.le G') {c : AV} (hν : ∀ κ ∈ c.keys, ν' κ = ν κ) {v : Value} (r : RepV G ν c v) : RepV G' ν' c v := by
  cases c with
  | any => trivial
  | s c => exact RepS.mono h hν r
  | tup cs => obtain ⟨us, e, hu⟩ := r; exact ⟨us, e, All2.monoS h hν hu⟩

/-- what is frozen lies there -/
def Sat (G : Frz) (w : World) : Prop := ∀ b, G b ≠ [] → ∃ vs e fr, w.heap[b]? = some (.cells vs e fr) ∧ G b <+: vs.toList

theorem Sat.cell {G : Frz} {w : World} (h : Sat G w) {b i : Nat} {v : Value} (e : (G b)[i]? = some v) : w.cell? ⟨b, i, none⟩ = some v := by
  have hne : G b ≠ [] := by intro h0; rw [h0] at e; simp at e
  obtain ⟨vs, t, fr, hb, ht⟩ := h b hne
  obtain ⟨l, hl⟩ := ht
  have : vs.toList[i]? = some v := by rw [← hl, List.getElem?_append_left (List.getElem?_eq_some_iff.1 e).1]; exact e
  simp [World.cell?, hb]
  simpa using this

theorem Sat.lt {G : Frz} {w : World} (h : Sat G w) {b : Nat} (hne : G b ≠ []) : b < w.heap.size := by
  obtain ⟨vs, t, fr, hb, _⟩ := h b hne
  exact (Array.getElem?_eq_some_iff.1 hb).1

/-- objects that a frame owns: a box (a variable in memory), an owned row, a map -/
inductive AO where
  | box (cs : List AC)
  | pbox (cs : List PC)
  | hot (k : Nat) (es : List (List PC))
  | raw (R : Frz → Obj → Prop)     -- any other block, told by a law of its own
  | mapo (es : List (Value × SV))  -- a map, as its entries stand
  | glob (g : Nat) (cs : List PC) (q : Obj)  -- a package variable that nobody writes
  | gmap (g : Nat) (es : List (Value × SV)) (q : Obj)  -- a package variable that is frozen and holds a map

def AO.keys : AO → List Key
  | .box cs => cs.flatMap AC.keys
  | .mapo es | .gmap _ es _ => es.flatMap (·.2.keys)
  | _ => []

/-- is the object never written? -/
def AO.fixed : AO → Bool
  | .glob _ _ _ | .gmap _ _ _ => true
  | _ => false

/-- has the object a block? -/
def AO.lives (ν : Pl) (κ : Key) : AO → Prop
  | .hot _ _ => (ν κ).2 ≠ 0
  | _ => True

/-- a map's entries -/
def RepM (G : Frz) (ν : Pl) (es : List (Value × SV)) (ents : List MapEntry) : Prop := All2 (fun p e => e.key = p.1 ∧ RepS G ν p.2 e.val) es ents

/-- a map's entries, in whatever order -/
def RepU (G : Frz) (ν : Pl) (es : List (Value × SV)) (ents : List MapEntry) : Prop :=
  (∀ e ∈ ents, ∃ p ∈ es, e.key = p.1 ∧ RepS G ν p.2 e.val) ∧ ∀ p ∈ es, ∃ e ∈ ents, e.key = p.1 ∧ RepS G ν p.2 e.val

theorem RepU.mono {G G' : Frz} {ν ν' : Pl} (h : G.le G') {es : List (Value × SV)} {ents : List MapEntry} (hν : ∀ κ ∈ es.flatMap (·.2.keys), ν' κ = ν κ) (r : RepU G ν es ents) : RepU G' ν' es ents := by
  have hk : ∀ p ∈ es, ∀ κ ∈ p.2.keys, ν' κ = ν κ := fun p hp κ hκ => hν κ (List.mem_flatMap.2 ⟨p, hp, hκ⟩)
  refine ⟨fun e he => ?_, fun p hp => ?_⟩
  · obtain ⟨p, hp, h1, h2⟩ := r.1 e he
    exact ⟨p, hp, h1, RepS.mono h (hk p hp) h2⟩
  · obtain ⟨e, he, h1, h2⟩ := r.2 p hp
    exact ⟨e, he, h1, RepS.mono h (hk p hp) h2⟩

theorem RepM.mono {G G' : Frz} {ν ν' : Pl} (h : G.le G') : ∀ {es : List (Value × SV)} {ents : List MapEntry}, (∀ κ ∈ es.flatMap (·.2.keys), ν' κ = ν κ) → RepM G ν es ents → RepM G' ν' es ents
  | [], [], _, _ => trivial
  | p :: es, _ :: _, hν, r => ⟨⟨r.1.1, RepS.mono h (fun κ hκ => hν κ (by simp only [List.flatMap_cons, List.mem_append]; exact Or.inl hκ)) r.1.2⟩, RepM.mono h (fun κ hκ => hν κ (by
      simp only [List.flatMap_cons, List.mem_append]; exact Or.inr hκ)) r.2⟩
  | [], _ :: _, _, r => r.elim
  | _ :: _, [], _, r => r.elim

def SatO (G : Frz) (ν : Pl) (w : World) (κ : Key) : AO → Prop
  | .box cs => ∃ us e, w.heap[(ν κ).1]? = some (.cells us e (0, 0)) ∧ All2 (RepC G ν) cs us.toList
  | .pbox cs => ∃ us e, w.heap[(ν κ).1]? = some (.cells us e (0, 0)) ∧ All2 (RepP G) cs us.toList
  | .hot k es => es.length ≤ (ν κ).2 ∧ (∀ e ∈ es, e.length = k) ∧ ((ν κ).2 ≠ 0 → ∃ us e, w.heap[(ν κ).1]? = some (.cells us e (0, 0)) ∧ (ν κ).2 * k ≤ us.size ∧
      ∀ i j c, (es[i]?).bind (·[j]?) = some c → ∃ u, us[i * k + j]? = some u ∧ RepP G c u)
  | .raw R => ∃ o, w.heap[(ν κ).1]? = some o ∧ ∀ G', G.le G' → R G' o
  | .mapo es => ∃ ents clock, w.heap[(ν κ).1]? = some (.map ents clock) ∧ RepM G ν es ents.toList
  | .glob g cs q => (ν κ).1 = g ∧ w.heap[(ν κ).1]? = some q ∧ ∃ us e fr, q = .cells us e fr ∧ All2 (RepP G) cs us.toList
  | .gmap g es q => (G g)[0]? = some (.map (some (ν κ).1)) ∧ w.heap[(ν κ).1]? = some q ∧ ∃ ents clock, q = .map ents clock ∧ RepU G ν es ents.toList

/-- which objects there are -/
abbrev BF := Key → Option AO

structure SatB (G : Frz) (ν : Pl) (w : World) (b : BF) : Prop where
  obj : ∀ κ o, b κ = some o → SatO G ν w κ o
  free : ∀ κ o, b κ = some o → o.fixed = false → o.lives ν κ → G (ν κ).1 = []
  lt : ∀ κ o, b κ = some o → o.lives ν κ → (ν κ).1 < w.heap.size
  apart : ∀ κ κ' o o', b κ = some o → b κ' = some o' → κ ≠ κ' → o.lives ν κ → o'.lives ν κ' → (ν κ).1 ≠ (ν κ').1

/-- the blocks of the objects -/
def blks (ν : Pl) (b : BF) (r : Nat) : Prop := ∃ κ o, b κ = some o ∧ o.lives ν κ ∧ (ν κ).1 = r

/-- what stays from one world to a later one, but for the blocks X -/
structure Keep (X : Nat → Prop) (G : Frz) (w : World) (G' : Frz) (w' : World) : Prop where
  size : w.heap.size ≤ w'.heap.size
  heap : ∀ b, b < w.heap.size → ¬ X b → w'.heap[b]? = w.heap[b]?
  fz : ∀ b, b < w.heap.size → ¬ X b → G' b = G b
  le : G.le G'
  tape : w'.tape = w.tape
  os : w'.os = w.os
  output : w'.output = w.output

theorem Keep.refl (X : Nat → Prop) (G : Frz) (w : World) : Keep X G w G w :=
  ⟨Nat.le_refl _, fun _ _ _ => rfl, fun _ _ _ => rfl, G.le_refl, rfl, rfl, rfl⟩

theorem Keep.trans {X Y : Nat → Prop} {G G' G'' : Frz} {w w' w'' : World} (h : Keep X G w G' w') (h' : Keep Y G' w' G'' w'')
    (hY : ∀ b, b < w.heap.size → Y b → X b) : Keep X G w G'' w'' where
  size := Nat.le_trans h.size h'.size
  heap b hb hx := (h'.heap b (Nat.lt_of_lt_of_le hb h.size) fun hy => hx (hY b hb hy)).trans (h.heap b hb hx)
  fz b hb hx := (h'.fz b (Nat.lt_of_lt_of_le hb h.size) fun hy => hx (hY b hb hy)).trans (h.fz b hb hx)
  le := Frz.le_trans h.le h'.le
  tape := h'.tape.trans h.tape
  os := h'.os.trans h.os
  output := h'.output.trans h.output

theorem Keep.mono {X Y : Nat → Prop} {G G' : Frz} {w w' : World} (h : Keep X G w G' w') (hXY : ∀ b, b < w.heap.size → X b → Y b) : Keep Y G w G' w' :=
  { h with heap := fun b hb hy => h.heap b hb fun hx => hy (hXY b hb hx), fz := fun b hb hy => h.fz b hb fun hx => hy (hXY b hb hx) }

/-- what the slots hold -/
abbrev FF := Nat → Option AV

structure Holds (G : Frz) (ν : Pl) (n : Nat) (f : FF) (a : Act) : Prop where
  size : a.tmps.size = n
  defers : a.defers = []
  fact : ∀ s v, f s = some v → s < n ∧ RepV G ν v (a.tmps.getD s undef)

/-! rows of pairs as functions -/
def look {α : Type} : List (Nat × α) → Nat → Option α
  | [], _ => none
  | (a, x) :: l, n => if a = n then some x else look l n

abbrev Facts := List (Nat × AV)
abbrev BL := List (Key × Option AO)

def Facts.fn (F : Facts) : FF := look F
def BL.fn (B : BL) : BF := fun κ => (look B κ).join

end Go.Abs
