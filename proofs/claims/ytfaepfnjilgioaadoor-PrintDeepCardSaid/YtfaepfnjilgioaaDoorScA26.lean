/-
  Contracts of library functions, as the shelf tells them.
-/
import Derived.Test.YtfaepfnjilgioaaDoorScA25
import Derived.Below
set_option linter.all false
set_option linter.unusedSimpArgs false
set_option linter.unusedVariables false
namespace Go.Abs
open Go Go.RowKit

theorem SatB.below {G : Frz} {ν : Pl} {w w' : World} {b : BF} (h : SatB G ν w b) (hb : Below w.heap.size w w') : SatB G ν w' b where
  obj κ o ho := (h.obj κ o ho).mono G.le_refl rfl (fun _ _ => rfl) fun hl => hb.block _ (h.lt κ o ho hl)
  free := h.free
  lt κ o ho hl := Nat.lt_of_lt_of_le (h.lt κ o ho hl) hb.size
  apart := h.apart
theorem Sat.below {G : Frz} {w w' : World} (h : Sat G w) (hb : Below w.heap.size w w') : Sat G w' := by
  intro r hr
  obtain ⟨vs, e, fr, h1, h2⟩ := h r hr
  exact ⟨vs, e, fr, by rw [hb.block r (h.lt hr)]; exact h1, h2⟩
theorem Keep.below {X : Nat → Prop} {G : Frz} {w w' : World} (hb : Below w.heap.size w w') : Keep X G w G w' :=
  ⟨hb.size, fun r hr _ => hb.block r hr, fun _ _ _ => rfl, G.le_refl, hb.tape, hb.os, hb.output⟩

/-- a function that changes nothing that was there -/
theorem Con.of_below {P : Program} {f : FuncId} {args : List SV} {Bi : BL} {outs : List SV} (hok : CallOk P f)
    (h : ∀ G ν w (vs : List Value), Sat G w → All2 (RepS G ν) args vs → SatB G ν w Bi.fn →
      Calls P f vs.toArray w fun e w' => ∃ v, e = .returned v ∧ RepV G ν (outAV outs) v ∧ Below w.heap.size w w') : Con P f args Bi outs Bi [] := by
  refine ⟨hok, fun G ν w vs hS ha hB => Calls.mono (h G ν w vs hS ha hB) ?_⟩
  rintro e w' ⟨v, rfl, hv, hb⟩
  exact ⟨v, rfl, G, ν, hv, hS.below hb, hB.below hb, Keep.below hb, fun _ _ => rfl, fun κ o ho hl => Or.inl ⟨κ, o, ho, hl, rfl⟩⟩

/-- the cells of a slice that is frozen -/
theorem rep_sl_cells {G : Frz} {k : Nat} {es : List (List PC)} {v : Value} {w : World} (hS : Sat G w) (h : RepP G (.sl k es) v) :
    ∃ a cap, v = .slice a es.length cap ∧ es.length ≤ cap ∧ (es = [] ∨ ∃ blk off, a = some ⟨blk, off, none⟩ ∧ (0 < k → blk < w.heap.size) ∧
      ∀ (i j : Nat) (c : PC), (es[i]?).bind (·[j]?) = some c → ∃ u, w.cell? ⟨blk, off + (i * k + j), none⟩ = some u ∧ RepP G c u) := by
  obtain ⟨a, cap, rfl, h1, hk, h2⟩ := rep_sl_row h
  refine ⟨a, cap, rfl, h1, ?_⟩
  rcases h2 with h2 | ⟨blk, off, us, rfl, hrow, hg⟩
  · exact Or.inl h2
  · by_cases he : es = []
    · exact Or.inl he
    · refine Or.inr ⟨blk, off, rfl, fun hk0 => ?_, fun i j c hc => ?_⟩
      · have hlen : 0 < us.length := by
          rw [hrow.1]
          have : 0 < es.length := List.length_pos_iff.2 he
          exact Nat.mul_pos this hk0
        have := hg 0 us[0] (List.getElem?_eq_getElem hlen)
        exact hS.lt (fun e => by rw [e] at this; simp at this)
      · obtain ⟨u, q1, q2⟩ := hrow.2.2 i j c hc
        exact ⟨u, hS.cell (hg _ u q1), q2⟩

section
variable {P : Program} {ops : Array Oper} {n : Nat} {os : List Oper} {F : Facts} {B : BL} {evs : List Ev} {K : FF → BF → List Ev → Prop}
variable {d t u ty : Nat} {x y z : Operand} {pos : String} {aft : Array Edge} {g : Option (Nat × Bool)}

/-- a byte of a string -/
def byteAt (s : ByteArray) (i : Nat) : Nat := (s[i]!).toNat
theorem byteAt_lt (s : ByteArray) (i : Nat) : byteAt s i < 256 := (s[i]!).toNat_lt

theorem R.idxSM {s : ByteArray} {κ' : IntKind} {i : Int} (hu : P.underlying t = some .string)
    (hg : GOk ops F ⟨some d, .index t x y, ty, pos, aft, g⟩ false) (hd : Nat.blt d n = true) (hx : ov F.fn x = some (vS s)) (hy : ov F.fn y = some (vV (.int κ' i)))
    (h0 : 0 ≤ i) (h1 : i < s.size)
    (h : Run P ops n os ((d, vU8 (byteAt s i.toNat)) :: F) B (evs ++ [ev0 ⟨some d, .index t x y, ty, pos, aft, g⟩ [(x, vS s), (y, vV (.int κ' i))] (vU8 (byteAt s i.toNat))]) K) :
    Run P ops n (⟨some d, .index t x y, ty, pos, aft, g⟩ :: os) F B evs K := by
  have hlt : i.toNat < s.size := by omega
  exact R.idxS hu hg hd hx hy h0 (show s[i.toNat]? = some s[i.toNat]! by rw [getElem?_pos s _ hlt, getElem!_pos s _ hlt]) h
end

end Go.Abs
