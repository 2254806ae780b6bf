/-
  PrintDeep: contracts of the library's functions.
-/
import Derived.Test.YtfaepfnjilgioaaDoorShelf
import Derived.Test.YtfaepfnjilgioaaDoorScP1
import Derived.Test.YtfaepfnjilgioaaDoorScA26
set_option linter.all false
set_option linter.unusedSimpArgs false
set_option linter.unusedVariables false
namespace Go.Sc
open Go Go.Proofs Go.Abs Go.RowKit Go.Sort

theorem con_20 (xs : List ByteArray) (sep : ByteArray) (hN : xs.length ≤ 1000000) (hlen : (Lib.join (xs.map (·.data.toList)) sep.data.toList).length ≤ 140737488355328) :
    Con Tryd.prog 20 [sL 1 (xs.map fun x => [pS x]), sS sep] [] [sS ⟨(Lib.join (xs.map (·.data.toList)) sep.data.toList).toArray⟩] [] [] := by
  refine Con.of_below ⟨Tryd.f20, Tryd.func20, by rfl, rfl⟩ fun G ν w vs hS ha _ => ?_
  match vs, ha with
  | [v, s], ha =>
    have e2 := rep_v (ν := ν) ha.2.1
    subst e2
    obtain ⟨a, cap, rfl, hcap, hc⟩ := rep_sl_cells hS (show RepP G (.sl 1 (xs.map fun x => [pS x])) v from ha.1)
    rw [List.length_map] at hcap ⊢
    rcases hc with hc | ⟨blk, off, rfl, hblk, hc⟩
    · have hx : xs = [] := List.map_eq_nil_iff.1 hc
      subst hx
      refine (Tryd.strings_Join_none a cap sep w).mono ?_
      rintro e w' ⟨rfl, rfl⟩
      exact ⟨_, rfl, rep_v' rfl, Below.refl _ _⟩
    · refine (Tryd.strings_Join blk off cap xs sep w (fun j x hx => ?_) (hblk (by omega)) (by omega) hcap hlen).mono ?_
      · obtain ⟨u, h1, h2⟩ := hc j 0 (pS x) (by simp [hx])
        cases h2
        simpa using h1
      · rintro e w' ⟨rfl, hb⟩
        exact ⟨_, rfl, rep_v' rfl, hb⟩

/-- the table that strconv reads -/
def pow10 (q : Obj) : AO := .glob 2 (Lib.pow10Tab.map fun z => pU z) q

theorem below_grow {w : World} {k : Nat} {os : Array Obj} : Below w.heap.size w (grow (w.drewN k) os) where
  os := rfl
  tape := rfl
  output := rfl
  size := by simp [grow]
  block r hr := by simp [grow, Array.getElem?_append, hr]

theorem con_32 {q : Obj} (n : Int) (h0 : -9223372036854775808 ≤ n) (h1 : n ≤ 9223372036854775807) : Con Tryd.prog 32 [sI n] [(2002, some (pow10 q))] [sS ⟨(Lib.itoa n).toArray⟩] [(2002, some (pow10 q))] [] := by
  refine Con.of_below ⟨Tryd.f32, Tryd.func32, by rfl, rfl⟩ fun G ν w vs hS ha hB => ?_
  match vs, ha with
  | [v], ha =>
    have e2 := rep_v (ν := ν) ha.1
    subst e2
    obtain ⟨hg, hb, us, e, fr, rfl, hu⟩ := hB.obj 2002 (pow10 _) rfl
    rw [hg] at hb
    have hus : us.toList = Lib.pow10Tab.map fun z => Value.int .u64 z := rep_vals (vs := Lib.pow10Tab.map fun z => Value.int .u64 z) (by rw [List.map_map]; exact hu)
    have htab : Lib.TabIs Tryd.prog w "internal/strconv.uint64pow10" .u64 Lib.pow10Tab := by
      have hgl : Tryd.prog.globalNamed "internal/strconv.uint64pow10" = some 2 := by rfl
      unfold Lib.TabIs World.var?
      rw [hgl]
      simp only [Option.bind_some, hb, ← hus]
    refine (Tryd.strconv_Itoa n h0 h1 w htab).mono ?_
    rintro e w' ⟨rfl, k, os, rfl⟩
    exact ⟨_, rfl, rep_v' rfl, below_grow⟩

end Go.Sc
