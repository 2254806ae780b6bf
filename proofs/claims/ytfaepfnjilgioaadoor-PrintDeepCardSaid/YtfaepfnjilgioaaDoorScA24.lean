/-
  A function's end, told plainly.
-/
import Derived.Test.YtfaepfnjilgioaaDoorScA23
set_option linter.all false
set_option linter.unusedSimpArgs false
set_option linter.unusedVariables false
namespace Go.Abs
open Go

theorem rn_nil : rn [] = id := rfl
theorem AC.ren_id (c : AC) : c.ren id = c := by cases c <;> simp [AC.ren]
theorem AC.ren_ids : ∀ cs : List AC, cs.map (AC.ren id) = cs
  | [] => rfl
  | c :: cs => by rw [List.map_cons, AC.ren_id, AC.ren_ids cs]
theorem SV.ren_id (x : SV) : x.ren id = x := by cases x <;> simp [SV.ren, AC.ren_id, AC.ren_ids]
theorem SV.ren_ids : ∀ xs : List SV, xs.map (SV.ren id) = xs
  | [] => rfl
  | x :: xs => by rw [List.map_cons, SV.ren_id, SV.ren_ids xs]
theorem ents_ren_id : ∀ es : List (Value × SV), es.map (fun p => (p.1, p.2.ren id)) = es
  | [] => rfl
  | x :: xs => by rw [List.map_cons, SV.ren_id, ents_ren_id xs]
theorem AO.ren_id (o : AO) : o.ren id = o := by cases o <;> simp [AO.ren, AC.ren_ids, ents_ren_id]

theorem FinQ.of {P : Program} {rs : List ResultVar} {outs : List SV} {Bo : BL} {f : FF} {b : BF} (hr : ResOk P f b rs outs) (hb : BiOk b Bo) : FinQ P rs outs Bo (rn []) .ret f b := by
  refine ⟨by rw [rn_nil, SV.ren_ids]; exact hr, fun κ o h => ?_⟩
  rw [rn_nil, AO.ren_id]
  exact hb.sub κ o h
theorem FinQ.ofN {P : Program} {rs : List ResultVar} {outs : List SV} {Bo : BL} {f : FF} {b : BF} (hr : ResOk P f b rs outs) (hb : BiOk b Bo) : FinQ P rs outs Bo (rn []) .normal f b := FinQ.of hr hb

theorem ret_eq {f : FF} {t : Nat} {x y : SV} (h : f t = some (.s x)) (e : x = y) : f t = some (.s y) := by rw [← e]; exact h

/-- one result -/
theorem J.ret1 {P : Program} {n : Nat} {f : FF} {b : BF} {Bo : BL} {t : Nat} {x y : SV} (h : f t = some (.s x)) (hb : BiOk b Bo) (e : x = y) : J P n .ret (FinQ P [.tmp t] [y] Bo (rn [])) f b :=
  J.ret (FinQ.of ⟨ret_eq h e, trivial⟩ hb)
theorem J.ret2 {P : Program} {n : Nat} {f : FF} {b : BF} {Bo : BL} {t u : Nat} {x y x' y' : SV} (h : f t = some (.s x)) (h' : f u = some (.s x')) (hb : BiOk b Bo) (e : x = y) (e' : x' = y') : J P n .ret (FinQ P [.tmp t, .tmp u] [y, y'] Bo (rn [])) f b :=
  J.ret (FinQ.of ⟨ret_eq h e, ret_eq h' e', trivial⟩ hb)

/-- a result that lies in a box -/
theorem J.retC {P : Program} {n : Nat} {f : FF} {b : BF} {Bo : BL} {a t κ m : Nat} {cs cs' : List PC} (hA : ∀ w, (isAgg t).run P w = .ok true w) (hs : ∀ w, (sizeOf t).run P w = .ok m w)
    (h : f a = some (vC (.ptr κ 0))) (hc : b κ = some (.pbox cs)) (hl : cs.length = m) (hb : BiOk b Bo) (e : cs = cs') : J P n .ret (FinQ P [.cell a t] [.pag cs'] Bo (rn [])) f b :=
  J.ret (FinQ.of ⟨⟨κ, m, h, hA, hs, Or.inl ⟨cs, by rw [e], hc, hl⟩⟩, trivial⟩ hb)

theorem svI {k : IntKind} {a b : Int} (h : a = b) : SV.one (.p (.v (.int k a))) = SV.one (.p (.v (.int k b))) := by rw [h]
theorem svB {a b : Bool} (h : a = b) : SV.one (.p (.v (.bool a))) = SV.one (.p (.v (.bool b))) := by rw [h]
theorem svS {a b : ByteArray} (h : a = b) : SV.one (.p (.v (.string a))) = SV.one (.p (.v (.string b))) := by rw [h]
theorem svL {k : Nat} {a b : List (List PC)} (h : a = b) : SV.one (.p (.sl k a)) = SV.one (.p (.sl k b)) := by rw [h]
theorem svA {a b : List PC} (h : a = b) : SV.pag a = SV.pag b := by rw [h]

end Go.Abs
