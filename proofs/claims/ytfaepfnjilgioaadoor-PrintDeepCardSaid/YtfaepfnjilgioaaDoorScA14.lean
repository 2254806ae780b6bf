/-
  Rules: literals of structs, arrays and slices, parts of slices, make, append.
-/
import Derived.Test.YtfaepfnjilgioaaDoorScA13
set_option linter.all false
set_option linter.unusedSimpArgs false
set_option linter.unusedVariables false
namespace Go.Abs
open Go

/-! ### parts of frozen slices -/
theorem rep_sl_part {G : Frz} {k : Nat} {es : List (List PC)} {a : Option Addr} {cap : Nat} (h : RepP G (.sl k es) (.slice a es.length cap)) {l m c : Nat} (h1 : l ≤ m) (h2 : m ≤ es.length) (h3 : m ≤ c) :
    RepP G (.sl k ((es.take m).drop l)) (.slice (if c = l then a else a.map (·.add (l * k))) (m - l) (c - l)) := by
  cases h with
  | sl blk off u hc hk ha hg hr =>
    have hlen : ((es.take m).drop l).length = m - l := by simp; omega
    have hmem : ∀ e ∈ (es.take m).drop l, e ∈ es := fun e he => List.mem_of_mem_take (List.mem_of_mem_drop he)
    have := RepP.sl (G := G) (k := k) (es := (es.take m).drop l) (a := if c = l then a else a.map (·.add (l * k))) (cap := c - l) blk (off + l * k) (fun i => u (l * k + i))
      (by omega) (fun e he => hk e (hmem e he)) (fun hne => by
        have : m - l ≠ 0 := by rw [← hlen]; exact fun h => hne (List.length_eq_zero_iff.1 h)
        have hne' : es ≠ [] := by intro h; subst h; simp at h2; omega
        rw [if_neg (by omega), ha hne', Option.map_some, addr_add]) (fun i hi => by
        rw [hlen] at hi
        have : l * k + i < es.length * k := by
          have : (l + (m - l)) * k ≤ es.length * k := Nat.mul_le_mul_right k (by omega)
          rw [Nat.add_mul] at this; omega
        rw [Nat.add_assoc]; exact hg _ this) (fun i j p hp => by
        have : ((es.take m).drop l)[i]? = (es.take m)[l + i]? := List.getElem?_drop
        rw [this, List.getElem?_take] at hp
        split at hp
        · have := hr (l + i) j p hp
          rw [Nat.add_mul, Nat.add_assoc] at this; exact this
        · simp at hp)
    rw [hlen] at this
    exact this

section
variable {P : Program} {ops : Array Oper} {n : Nat} {os : List Oper} {F : Facts} {B : BL} {evs : List Ev} {K : FF → BF → List Ev → Prop}
variable {d t u ty : Nat} {x y z : Operand} {pos : String} {aft : Array Edge} {g : Option (Nat × Bool)}

theorem rep_sl_len' {G : Frz} {k : Nat} {es : List (List PC)} {v : Value} (h : RepP G (.sl k es) v) : ∃ a cap, v = .slice a es.length cap ∧ es.length ≤ cap := by
  cases h with
  | sl _ _ _ hc => exact ⟨_, _, rfl, hc⟩

/-- x[:hi] -/
theorem R.slHi {k e : Nat} {es : List (List PC)} {m : Int} {κ2 : IntKind} (hu : P.underlying t = some (.slice e)) (hs : ∀ w, (sizeOf e).run P w = .ok k w)
    (hg : GOk ops F ⟨some d, .slice t x none (some y) none, ty, pos, aft, g⟩ false) (hd : Nat.blt d n = true) (hx : ov F.fn x = some (vL k es)) (hy : ov F.fn y = some (vV (.int κ2 m)))
    (h0 : 0 ≤ m) (h1 : m ≤ es.length)
    (h : Run P ops n os ((d, vL k (es.take m.toNat)) :: F) B (evs ++ [ev0 ⟨some d, .slice t x none (some y) none, ty, pos, aft, g⟩ [(x, vL k es), (y, vV (.int κ2 m))] (vL k (es.take m.toNat))]) K) :
    Run P ops n (⟨some d, .slice t x none (some y) none, ty, pos, aft, g⟩ :: os) F B evs K := by
  refine Run.pure d [(x, vL k es), (y, vV (.int κ2 m))] _ hg rfl hd ⟨hx, hy, trivial⟩ (fun G ν ρ w _ hr => ?_) h
  have hrx : RepP G (.sl k es) (ρ x) := hr.1
  obtain ⟨a, cap, e, hc⟩ := rep_sl_len' hrx
  rw [e] at hrx
  have e' := rep_v hr.2.1
  have c1 : 0 ≤ m ∧ m ≤ (cap : Int) := ⟨h0, by omega⟩
  have hp := rep_sl_part hrx (l := 0) (m := m.toNat) (c := cap) (by omega) (by omega) (by omega)
  simp only [List.drop_zero, Nat.sub_zero, Nat.zero_mul] at hp
  refine ⟨_, ?_, hp⟩
  simp [execOp, Instr.sliceAt, Instr.slice, Instr.sliceBounds, Instr.sliceBound, asIntOf, e, e', c1, hs, run_underlying hu, Sem.run_bind, Result.andThen, Sem.run, Pure.pure]

/-- x[lo:] -/
theorem R.slLo {k e : Nat} {es : List (List PC)} {l : Int} {κ2 : IntKind} (hu : P.underlying t = some (.slice e)) (hs : ∀ w, (sizeOf e).run P w = .ok k w)
    (hg : GOk ops F ⟨some d, .slice t x (some y) none none, ty, pos, aft, g⟩ false) (hd : Nat.blt d n = true) (hx : ov F.fn x = some (vL k es)) (hy : ov F.fn y = some (vV (.int κ2 l)))
    (h0 : 0 ≤ l) (h1 : l ≤ es.length)
    (h : Run P ops n os ((d, vL k (es.drop l.toNat)) :: F) B (evs ++ [ev0 ⟨some d, .slice t x (some y) none none, ty, pos, aft, g⟩ [(x, vL k es), (y, vV (.int κ2 l))] (vL k (es.drop l.toNat))]) K) :
    Run P ops n (⟨some d, .slice t x (some y) none none, ty, pos, aft, g⟩ :: os) F B evs K := by
  refine Run.pure d [(x, vL k es), (y, vV (.int κ2 l))] _ hg rfl hd ⟨hx, hy, trivial⟩ (fun G ν ρ w _ hr => ?_) h
  have hrx : RepP G (.sl k es) (ρ x) := hr.1
  obtain ⟨a, cap, e, hc⟩ := rep_sl_len' hrx
  rw [e] at hrx
  have e' := rep_v hr.2.1
  have hp := rep_sl_part hrx (l := l.toNat) (m := es.length) (c := cap) (by omega) (by omega) (by omega)
  simp only [List.take_length] at hp
  refine ⟨_, ?_, hp⟩
  simp [execOp, Instr.sliceAt, Instr.slice, Instr.sliceBounds, Instr.sliceBound, asIntOf, e, e', h0, h1, hs, run_underlying hu, Sem.run_bind, Result.andThen, Sem.run, Pure.pure]

/-- x[lo:hi] -/
theorem R.slLH {k e : Nat} {es : List (List PC)} {l m : Int} {κ1 κ2 : IntKind} (hu : P.underlying t = some (.slice e)) (hs : ∀ w, (sizeOf e).run P w = .ok k w)
    (hg : GOk ops F ⟨some d, .slice t x (some y) (some z) none, ty, pos, aft, g⟩ false) (hd : Nat.blt d n = true) (hx : ov F.fn x = some (vL k es)) (hy : ov F.fn y = some (vV (.int κ1 l))) (hz : ov F.fn z = some (vV (.int κ2 m)))
    (h0 : 0 ≤ l) (h1 : l ≤ m) (h2 : m ≤ es.length)
    (h : Run P ops n os ((d, vL k ((es.take m.toNat).drop l.toNat)) :: F) B (evs ++ [ev0 ⟨some d, .slice t x (some y) (some z) none, ty, pos, aft, g⟩ [(x, vL k es), (y, vV (.int κ1 l)), (z, vV (.int κ2 m))] (vL k ((es.take m.toNat).drop l.toNat))]) K) :
    Run P ops n (⟨some d, .slice t x (some y) (some z) none, ty, pos, aft, g⟩ :: os) F B evs K := by
  refine Run.pure d [(x, vL k es), (y, vV (.int κ1 l)), (z, vV (.int κ2 m))] _ hg rfl hd ⟨hx, hy, hz, trivial⟩ (fun G ν ρ w _ hr => ?_) h
  have hrx : RepP G (.sl k es) (ρ x) := hr.1
  obtain ⟨a, cap, e, hc⟩ := rep_sl_len' hrx
  rw [e] at hrx
  have e' := rep_v hr.2.1
  have e'' := rep_v hr.2.2.1
  have c1 : 0 ≤ m ∧ m ≤ (cap : Int) := ⟨by omega, by omega⟩
  have c3 : l ≤ max m 0 := by omega
  have hp := rep_sl_part hrx (l := l.toNat) (m := m.toNat) (c := cap) (by omega) (by omega) (by omega)
  refine ⟨_, ?_, hp⟩
  simp [execOp, Instr.sliceAt, Instr.slice, Instr.sliceBounds, Instr.sliceBound, asIntOf, e, e', e'', c1, c3, h0, hs, run_underlying hu, Sem.run_bind, Result.andThen, Sem.run, Pure.pure]

/-! ### parts of structs -/
theorem R.fldP {s i m : Nat} {fs : Array Field} {fd : Field} {cs : List PC} {c : PC} (hu : P.underlying s = some (.struct fs)) (hf : fs[i]? = some fd)
    (ha : ∀ w, (isAgg fd.type).run P w = .ok false w) (hm : fd.offset = m) (hc : cs[m]? = some c)
    (hg : GOk ops F ⟨some d, .field s x i, ty, pos, aft, g⟩ false) (hd : Nat.blt d n = true) (hx : ov F.fn x = some (vA cs))
    (h : Run P ops n os ((d, vP c) :: F) B (evs ++ [ev0 ⟨some d, .field s x i, ty, pos, aft, g⟩ [(x, vA cs)] (vP c)]) K) :
    Run P ops n (⟨some d, .field s x i, ty, pos, aft, g⟩ :: os) F B evs K := by
  subst hm
  refine Run.pure d [(x, vA cs)] _ hg rfl hd ⟨hx, trivial⟩ (fun G ν ρ w _ hr => ?_) h
  obtain ⟨us, e, hu'⟩ := hr.1
  obtain ⟨v, h1, h2⟩ := hu'.get fd.offset c hc
  have h1' : us[fd.offset]? = some v := by simpa using h1
  refine ⟨v, ?_, h2⟩
  simp [execOp, Instr.field, e, asAgg, part, run_underlying hu, hf, ha, h1', Sem.run_bind, Result.andThen, Sem.run, Pure.pure]

/-! ### literals -/
theorem foldl_spl : ∀ (vs : List Value) (us : Array Value) (off i : Nat), (vs.zipIdx i).foldl (fun cs p => cs.setIfInBounds (off + p.2) p.1) us = spl us (off + i) vs
  | [], _, _, _ => rfl
  | v :: vs, us, off, i => by
    simp only [List.zipIdx_cons, List.foldl_cons, spl]
    rw [foldl_spl vs _ off (i + 1)]; rfl

theorem fill_cons {place : Nat → Option (Nat × Nat)} {us : Array Value} {i off m : Nat} {v : Value} {rest : List (Nat × Value)} (hp : place i = some (off, m)) (hm : v.cells.size = m) (hl : off + m ≤ us.size) :
    Instr.fill place us ((i, v) :: rest) = Instr.fill place (spl us off v.cells.toList) rest := by
  have h1 : ¬ (v.cells.size ≠ m ∨ off + v.cells.size > us.size) := by omega
  rw [Instr.fill]
  simp only [hp]
  rw [if_neg (by simpa using h1)]
  have := foldl_spl v.cells.toList us off 0
  rw [Nat.add_zero] at this
  rw [← this, ← Array.foldl_toList]
  simp

/-- the cells of a literal, as it is filled -/
def fillA (cs : List AC) : List (Nat × Nat × SV) → List AC
  | [] => cs
  | p :: ps => fillA (lspl cs p.2.1 p.2.2.acs) ps
def fillOk (place : Nat → Option (Nat × Nat)) (size : Nat) : List (Nat × Nat × SV) → Prop
  | [] => True
  | p :: ps => place p.1 = some (p.2.1, p.2.2.acs.length) ∧ p.2.1 + p.2.2.acs.length ≤ size ∧ fillOk place size ps

theorem fill_rep {G : Frz} {ν : Pl} {place : Nat → Option (Nat × Nat)} : ∀ (ps : List (Nat × Nat × SV)) (vs : List (Nat × Value)) (cs : List AC) (us : Array Value), fillOk place us.size ps →
    All2 (fun p v => v.1 = p.1 ∧ RepS G ν p.2.2 v.2) ps vs → All2 (RepC G ν) cs us.toList →
    ∃ out, Instr.fill place us vs = some out ∧ All2 (RepC G ν) (fillA cs ps) out.toList
  | [], [], cs, us, _, _, h => ⟨us, rfl, h⟩
  | p :: ps, (i, v) :: vs, cs, us, hok, hv, h => by
    obtain ⟨h1, h2, h3⟩ := hok
    obtain ⟨⟨e1, e2⟩, hv'⟩ := hv
    simp only at e1 e2
    subst e1
    have ha := rep_acs e2
    have hal := ha.len
    simp only [Array.length_toList] at hal
    have hsz : (spl us p.2.1 v.cells.toList).size = us.size := by
      have := spl_toList v.cells.toList us p.2.1 (by simp; omega)
      have := congrArg List.length this
      simp only [Array.length_toList, List.length_append, List.length_take, List.length_drop] at this
      omega
    obtain ⟨out, g1, g2⟩ := fill_rep ps vs (lspl cs p.2.1 p.2.2.acs) (spl us p.2.1 v.cells.toList) (by rw [hsz]; exact h3) hv' (by
      rw [spl_toList _ _ _ (by simp; omega)]
      exact h.lspl ha p.2.1)
    exact ⟨out, by rw [fill_cons h1 (by omega) (by omega)]; exact g1, g2⟩
  | [], _ :: _, _, _, _, h, _ => h.elim
  | _ :: _, [], _, _, _, h, _ => h.elim

/-- what building a type's value does -/
def BT (P : Program) (t : Nat) (zs : List Value) (place : Nat → Option (Nat × Nat)) : Prop :=
  zs.all isCell = true ∧ ∀ (vs : Array (Nat × Value)) (w : World) (out : Array Value), Instr.fill place zs.toArray vs.toList = some out → (Instr.build t vs).run P w = .ok (.agg out) w

theorem BT.struct {zs : List Value} {z : Value} {fs : Array Field} {pl : Array (Nat × Nat)} (hu : P.underlying t = some (.struct fs)) (hz : ∀ w, (zeroValue t).run P w = .ok z w) (hzs : z.cells = zs.toArray)
    (hpl : ∀ w, (fs.mapM fun f => do pure (f.offset, ← sizeOf f.type) : Sem (Array (Nat × Nat))).run P w = .ok pl w) (hc : zs.all isCell = true) : BT P t zs (pl[·]?) := by
  refine ⟨hc, fun vs w out h => ?_⟩
  simp only [Instr.build, Sem.run_bind, hz, Result.andThen, run_underlying hu, hpl, hzs, h]
  rfl

theorem BT.array {zs : List Value} {z : Value} {len e m : Nat} (hu : P.underlying t = some (.array len e)) (hz : ∀ w, (zeroValue t).run P w = .ok z w) (hzs : z.cells = zs.toArray)
    (hs : ∀ w, (sizeOf e).run P w = .ok m w) (hc : zs.all isCell = true) : BT P t zs (fun i => some (i * m, m)) := by
  refine ⟨hc, fun vs w out h => ?_⟩
  simp [Instr.build, hz, run_underlying hu, Sem.run_bind, Result.andThen, hs, hzs, h, Sem.run, Pure.pure]

theorem rep_zeros {G : Frz} {ν : Pl} : ∀ {l : List Value}, l.all isCell = true → All2 (RepC G ν) (l.map fun v => .p (.v v)) l
  | [], _ => trivial
  | a :: l, h => by simp only [List.all_cons, Bool.and_eq_true] at h; exact ⟨.v a h.1, rep_zeros h.2⟩

theorem rep_parts {G : Frz} {ν : Pl} {ρ : Operand → Value} : ∀ {xs : List (Nat × Nat × Operand × SV)}, RepAll G ν ρ (xs.map fun p => (p.2.2.1, .s p.2.2.2)) →
    All2 (fun p v => v.1 = p.1 ∧ RepS G ν p.2.2 v.2) (xs.map fun p => (p.1, p.2.1, p.2.2.2)) (xs.map fun p => (p.1, ρ p.2.2.1))
  | [], _ => trivial
  | _ :: _, h => ⟨⟨rfl, h.1⟩, rep_parts h.2⟩

theorem All2.unmap_p {G : Frz} {ν : Pl} : ∀ {cs : List PC} {us : List Value}, All2 (RepC G ν) (cs.map .p) us → All2 (RepP G) cs us
  | [], [], _ => trivial
  | _ :: _, _ :: _, h => ⟨h.1, All2.unmap_p h.2⟩
  | [], _ :: _, h => h.elim
  | _ :: _, [], h => h.elim

/-- cells that are all plain -/
def unps : List AC → Option (List PC)
  | [] => some []
  | .p x :: l => (unps l).map (x :: ·)
  | _ => none
theorem unps_eq : ∀ {l : List AC} {cs : List PC}, unps l = some cs → l = cs.map .p
  | [], cs, h => by simp [unps] at h; subst h; rfl
  | .p x :: l, cs, h => by
    simp only [unps, Option.map_eq_some_iff] at h
    obtain ⟨a, h1, h2⟩ := h
    subst h2
    rw [unps_eq h1]; rfl
  | .ptr _ _ :: _, _, h => by simp [unps] at h
  | .el _ _ _ _ :: _, _, h => by simp [unps] at h
  | .at_ _ :: _, _, h => by simp [unps] at h
  | .hs _ _ :: _, _, h => by simp [unps] at h
  | .mp _ :: _, _, h => by simp [unps] at h
  | .clo _ _ _ :: _, _, h => by simp [unps] at h

/-- a struct or an array of plain parts; a part: its number, its place, its operand, its value -/
theorem R.buildP {zs : List Value} {place : Nat → Option (Nat × Nat)} {parts : Array (Nat × Operand)} (xs : List (Nat × Nat × Operand × SV)) {cs : List PC} (hg : GOk ops F ⟨some d, .build t parts, ty, pos, aft, g⟩ false) (hd : Nat.blt d n = true) (hx : OvAll F.fn (xs.map fun p => (p.2.2.1, .s p.2.2.2)))
    (hb : BT P t zs place)
    (hp : parts = (xs.map fun p => (p.1, p.2.2.1)).toArray) (hok : fillOk place zs.length (xs.map fun p => (p.1, p.2.1, p.2.2.2))) (hcs : unps (fillA (zs.map fun v => .p (.v v)) (xs.map fun p => (p.1, p.2.1, p.2.2.2))) = some cs)
    (h : Run P ops n os ((d, vA cs) :: F) B (evs ++ [ev0 ⟨some d, .build t parts, ty, pos, aft, g⟩ (xs.map fun p => (p.2.2.1, .s p.2.2.2)) (vA cs)]) K) :
    Run P ops n (⟨some d, .build t parts, ty, pos, aft, g⟩ :: os) F B evs K := by
  refine Run.pure d _ _ hg rfl hd hx (fun G ν ρ w _ hr => ?_) h
  obtain ⟨out, h1, h2⟩ := fill_rep (xs.map fun p => (p.1, p.2.1, p.2.2.2)) (xs.map fun p => (p.1, ρ p.2.2.1)) (zs.map fun v => .p (.v v)) zs.toArray (by simpa using hok) (rep_parts hr) (by simpa using rep_zeros hb.1)
  rw [unps_eq hcs] at h2
  refine ⟨.agg out, ?_, out, rfl, h2.unmap_p⟩
  have := hb.2 (parts.map fun (i, x) => (i, ρ x)) w out (by subst hp; simpa [Function.comp_def] using h1)
  simp [execOp, Sem.run_bind, Result.andThen, this, Sem.run, Pure.pure]

theorem R.buildA {zs : List Value} {place : Nat → Option (Nat × Nat)} {parts : Array (Nat × Operand)} (xs : List (Nat × Nat × Operand × SV)) {cs : List AC} (hg : GOk ops F ⟨some d, .build t parts, ty, pos, aft, g⟩ false) (hd : Nat.blt d n = true) (hx : OvAll F.fn (xs.map fun p => (p.2.2.1, .s p.2.2.2)))
    (hb : BT P t zs place)
    (hp : parts = (xs.map fun p => (p.1, p.2.2.1)).toArray) (hok : fillOk place zs.length (xs.map fun p => (p.1, p.2.1, p.2.2.2))) (hcs : fillA (zs.map fun v => .p (.v v)) (xs.map fun p => (p.1, p.2.1, p.2.2.2)) = cs)
    (h : Run P ops n os ((d, .s (.agg cs)) :: F) B (evs ++ [ev0 ⟨some d, .build t parts, ty, pos, aft, g⟩ (xs.map fun p => (p.2.2.1, .s p.2.2.2)) (.s (.agg cs))]) K) :
    Run P ops n (⟨some d, .build t parts, ty, pos, aft, g⟩ :: os) F B evs K := by
  refine Run.pure d _ _ hg rfl hd hx (fun G ν ρ w _ hr => ?_) h
  obtain ⟨out, h1, h2⟩ := fill_rep (xs.map fun p => (p.1, p.2.1, p.2.2.2)) (xs.map fun p => (p.1, ρ p.2.2.1)) (zs.map fun v => .p (.v v)) zs.toArray (by simpa using hok) (rep_parts hr) (by simpa using rep_zeros hb.1)
  rw [hcs] at h2
  refine ⟨.agg out, ?_, out, rfl, h2⟩
  have := hb.2 (parts.map fun (i, x) => (i, ρ x)) w out (by subst hp; simpa [Function.comp_def] using h1)
  simp [execOp, Sem.run_bind, Result.andThen, this, Sem.run, Pure.pure]

end
end Go.Abs
