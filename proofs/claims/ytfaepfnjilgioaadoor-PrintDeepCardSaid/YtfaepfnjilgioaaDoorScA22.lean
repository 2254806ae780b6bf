/-
  Rules: a map's entry more; make.
-/
import Derived.Test.YtfaepfnjilgioaaDoorScA21
set_option linter.all false
set_option linter.unusedSimpArgs false
set_option linter.unusedVariables false
namespace Go.Abs
open Go

section
variable {P : Program} {ops : Array Oper} {n : Nat} {os : List Oper} {F : Facts} {B : BL} {evs : List Ev} {K : FF → BF → List Ev → Prop}
variable {d t u ty : Nat} {x y z : Operand} {pos : String} {aft : Array Edge} {g : Option (Nat × Bool)}

/-- an entry more -/
theorem run_mapUpdate_new {mt key elem : Nat} {de : TypeDesc} {G : Frz} {ν : Pl} {w : World} {κ : Key} {es : List (Value × SV)} {k v : Value} {ents : Array MapEntry} {clock : Nat} (hu : P.underlying mt = some (.map key elem)) (hk : P.underlying key = some de)
    (hd : keyDesc de k = true) (hb : w.heap[(ν κ).1]? = some (.map ents clock)) (hr : RepM G ν es ents.toList) (hf : mfind k es = some none) :
    (Instr.mapUpdate mt (.map (some (ν κ).1)) k v).run P w = .ok () (putBlk w (ν κ).1 (.map (ents.push ⟨k, v, clock⟩) (clock + 1))) := by
  obtain ⟨r', h3, h4⟩ := findNow_of (G := G) (ν := ν) hd (i := 0) hr hf
  cases r' with
  | some _ => exact h4.elim
  | none =>
    have hfk : (Instr.findKey key k ents.toList).run P w = .ok none w := by
      simp [Instr.findKey, Sem.run_bind, run_underlying hk, Result.andThen, h3]
    have hset : (setObj (ν κ).1 (.map (ents.push ⟨k, v, clock⟩) (clock + 1))).run P w = .ok () (putBlk w (ν κ).1 (.map (ents.push ⟨k, v, clock⟩) (clock + 1))) := by
      simp [setObj, Sem.run, putBlk, hb]
    simp [Instr.mapUpdate, Sem.run_bind, run_underlying hu, Result.andThen, run_getObj hb, run_checkKey hk hd, hfk, hset]

theorem All2.snoc {α β : Type} {R : α → β → Prop} {as : List α} {bs : List β} {a : α} {b : β} (h : All2 R as bs) (h' : R a b) : All2 R (as ++ [a]) (bs ++ [b]) := h.append ⟨h', trivial⟩

theorem R.insert {κ key elem : Nat} {de : TypeDesc} {k : Value} {es : List (Value × SV)} {v : SV} (hu : P.underlying t = some (.map key elem)) (hk : P.underlying key = some de) (hd' : keyDesc de k = true)
    (hg : GOk ops F ⟨none, .insert t x y z, ty, pos, aft, g⟩ false) (hx : ov F.fn x = some (vC (.mp κ))) (hy : ov F.fn y = some (vV k)) (hz : ov F.fn z = some (.s v)) (hb : B.fn κ = some (.mapo es)) (hf : mfind k es = some none)
    (h : Run P ops n os F ((κ, some (.mapo (es ++ [(k, v)]))) :: B) (evs ++ [⟨⟨none, .insert t x y z, ty, pos, aft, g⟩, false, opFs [(x, vC (.mp κ)), (y, vV k), (z, .s v)], [(κ, some (.mapo es))], .any, [(κ, some (.mapo (es ++ [(k, v)])))], [], false⟩]) K) :
    Run P ops n (⟨none, .insert t x y z, ty, pos, aft, g⟩ :: os) F B evs K := by
  refine Run.write [(x, vC (.mp κ)), (y, vV k), (z, .s v)] κ (.mapo es) (.mapo (es ++ [(k, v)])) hg rfl ⟨hx, hy, hz, trivial⟩ hb (fun _ _ => trivial) (fun _ _ => trivial) ?_ h
  intro G ν ρ w hS hr hO
  obtain ⟨ents, clock, h1, h2⟩ := hO
  have ex : ρ x = .map (some (ν κ).1) := hr.1
  have ey := rep_v hr.2.1
  have hv : RepS G ν v (ρ z) := hr.2.2.1
  have hrun := run_mapUpdate_new (P := P) (v := ρ z) hu hk hd' h1 h2 hf
  refine ⟨_, trivial, ?_, fun w' hw => ⟨ents.push ⟨k, ρ z, clock⟩, clock + 1, hw, ?_⟩⟩
  · simp only [execOp, ex, ey]
    simp [Sem.run_bind, Result.andThen, hrun]
  · simp only [Array.toList_push]
    exact All2.snoc h2 ⟨rfl, hv⟩

theorem R.mapSet {κ key elem : Nat} {de : TypeDesc} {k : Value} {es : List (Value × SV)} {v : SV} (hu : P.underlying t = some (.map key elem)) (hk : P.underlying key = some de) (hd' : keyDesc de k = true)
    (hg : GOk ops F ⟨none, .mapUpdate t x y z, ty, pos, aft, g⟩ false) (hx : ov F.fn x = some (vC (.mp κ))) (hy : ov F.fn y = some (vV k)) (hz : ov F.fn z = some (.s v)) (hb : B.fn κ = some (.mapo es)) (hf : mfind k es = some none)
    (h : Run P ops n os F ((κ, some (.mapo (es ++ [(k, v)]))) :: B) (evs ++ [⟨⟨none, .mapUpdate t x y z, ty, pos, aft, g⟩, false, opFs [(x, vC (.mp κ)), (y, vV k), (z, .s v)], [(κ, some (.mapo es))], .any, [(κ, some (.mapo (es ++ [(k, v)])))], [], false⟩]) K) :
    Run P ops n (⟨none, .mapUpdate t x y z, ty, pos, aft, g⟩ :: os) F B evs K := by
  refine Run.write [(x, vC (.mp κ)), (y, vV k), (z, .s v)] κ (.mapo es) (.mapo (es ++ [(k, v)])) hg rfl ⟨hx, hy, hz, trivial⟩ hb (fun _ _ => trivial) (fun _ _ => trivial) ?_ h
  intro G ν ρ w hS hr hO
  obtain ⟨ents, clock, h1, h2⟩ := hO
  have ex : ρ x = .map (some (ν κ).1) := hr.1
  have ey := rep_v hr.2.1
  have hv : RepS G ν v (ρ z) := hr.2.2.1
  have hrun := run_mapUpdate_new (P := P) (v := ρ z) hu hk hd' h1 h2 hf
  refine ⟨_, trivial, ?_, fun w' hw => ⟨ents.push ⟨k, ρ z, clock⟩, clock + 1, hw, ?_⟩⟩
  · simp only [execOp, ex, ey]
    simp [Sem.run_bind, Result.andThen, hrun]
  · simp only [Array.toList_push]
    exact All2.snoc h2 ⟨rfl, hv⟩

/-! ### make -/
theorem replicate_row {G : Frz} {k : Nat} {zs : List Value} (hz : zs.all isCell = true) (hk : zs.length = k) (m : Nat) : Row G k (List.replicate m (zs.map .v)) (List.replicate m zs).flatten := by
  refine ⟨by simp [hk], fun c hc => by rw [List.eq_of_mem_replicate hc]; simpa using hk, fun i j c hc => ?_⟩
  have hi : i < m := by
    rcases Nat.lt_or_ge i m with h | h
    · exact h
    · rw [List.getElem?_eq_none (by simpa using h)] at hc; simp at hc
  rw [List.getElem?_replicate, if_pos hi] at hc
  simp only [Option.bind_some, List.getElem?_map] at hc
  cases hzj : zs[j]? with
  | none => rw [hzj] at hc; simp at hc
  | some v =>
    rw [hzj] at hc; simp at hc; subst hc
    have hj := (List.getElem?_eq_some_iff.1 hzj).1
    refine ⟨v, ?_, .v v (List.all_eq_true.1 hz v (List.mem_of_getElem? hzj))⟩
    have : ∀ (m i : Nat), i < m → (List.replicate m zs).flatten[i * k + j]? = some v := by
      intro m
      induction m with
      | zero => intro i hi; omega
      | succ m ih =>
        intro i hi
        rw [List.replicate_succ, List.flatten_cons]
        cases i with
        | zero => rw [Nat.zero_mul, Nat.zero_add, List.getElem?_append_left hj]; exact hzj
        | succ i =>
          have e : (i + 1) * k = i * k + k := by rw [Nat.add_mul, Nat.one_mul]
          rw [List.getElem?_append_right (by omega), e]
          have := ih i (by omega)
          rw [show i * k + k + j - zs.length = i * k + j from by omega]; exact this
    exact this m i hi

theorem range_flat (zs : List Value) (m : Nat) : ((List.range (m * zs.length)).map fun i => zs.toArray[i % zs.length]!) = (List.replicate m zs).flatten := by
  induction m with
  | zero => simp
  | succ m ih =>
    rw [List.replicate_succ', List.flatten_append, ← ih]
    rw [show (m + 1) * zs.length = m * zs.length + zs.length from by rw [Nat.add_mul, Nat.one_mul], List.range_add, List.map_append]
    congr 1
    simp only [List.map_map, Function.comp_def, Nat.mul_add_mod_self_right, List.flatten_singleton]
    apply List.ext_getElem?
    intro i
    rw [List.getElem?_map]
    by_cases hi : i < zs.length
    · rw [List.getElem?_range hi]
      simp [Nat.mod_eq_of_lt hi, hi]
    · rw [List.getElem?_eq_none (by simpa using hi), List.getElem?_eq_none (by omega)]; rfl

theorem R.mkSlice {e k bt : Nat} {i : TypeInfo} {zv : Value} {zs : List Value} {m : Int} {ki : IntKind} (hu : P.underlying t = some (.slice e)) (hs : ∀ w, (sizeOf e).run P w = .ok k w) (hi : ∀ w, (typeInfo e).run P w = .ok i w) (hbt : i.bytes = bt)
    (hz : ∀ w, (zeroValue e).run P w = .ok zv w) (hzs : zv.cells = zs.toArray) (hzk : zs.length = k) (hzc : zs.all isCell = true) (hk0 : Nat.beq k 0 = false)
    (hg : GOk ops F ⟨some d, .makeSlice t x y, ty, pos, aft, g⟩ false) (hd : Nat.blt d n = true) (hx : ov F.fn x = some (vV (.int ki m))) (hy : ov F.fn y = some (vV (.int ki m))) (h0 : 0 ≤ m) (h1 : bt * m ≤ 281474976710656) (h2 : m ≤ 9223372036854775807)
    (h : Run P ops n os ((d, vC (.hs d (List.replicate m.toNat (zs.map PC.v)).length)) :: F) ((d, some (.hot k (List.replicate m.toNat (zs.map PC.v)))) :: B)
      (evs ++ [⟨⟨some d, .makeSlice t x y, ty, pos, aft, g⟩, false, opFs [(x, vV (.int ki m)), (y, vV (.int ki m))], [], vC (.hs d (List.replicate m.toNat (zs.map PC.v)).length), [(d, some (.hot k (List.replicate m.toNat (zs.map PC.v))))], [d], false⟩]) K) :
    Run P ops n (⟨some d, .makeSlice t x y, ty, pos, aft, g⟩ :: os) F B evs K := by
  refine Run.newRow d [(x, vV (.int ki m)), (y, vV (.int ki m))] k (List.replicate m.toNat (zs.map PC.v)) hg rfl hd ⟨hx, hy, trivial⟩ (fun G ν ρ w hS hr => ?_) h
  have ex := rep_v hr.1
  have ey := rep_v hr.2.1
  subst hbt hzk
  have hw : IntKind.i64.wrap m = m := wrap_i64 ⟨by omega, h2⟩
  have hlen : zs.length ≠ 0 := fun e => by rw [e] at hk0; cases hk0
  have n1 : ¬ m < 0 := by omega
  have n2 : ¬ (281474976710656 < (i.bytes : Int) * m) := by omega
  refine ⟨e, (List.replicate m.toNat zs).flatten.toArray, ?_, ?_⟩
  · by_cases hn : m.toNat = 0
    · simp [execOp, ex, ey, Instr.makeSlice, run_underlying hu, asInt, asIntOf, hi, hs, hw, n1, n2, hn, newRow, layBlk, Array.range_zero']
    · have hn' : m.toNat * zs.length ≠ 0 := Nat.mul_ne_zero hn hlen
      have hr2 := range_flat zs m.toNat
      simp [execOp, ex, ey, Instr.makeSlice, run_underlying hu, asInt, asIntOf, hi, hs, hw, n1, n2, hn, hlen, newRow, layBlk, hz, hzs]
      rw [if_neg hn']
      congr 4
      apply Array.ext'
      rw [← hr2]; simp
  · exact replicate_row hzc rfl _

end
end Go.Abs
