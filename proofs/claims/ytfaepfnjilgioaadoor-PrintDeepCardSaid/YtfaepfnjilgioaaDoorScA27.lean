/-
  A contract whose result is an owned row, told as one whose result is frozen.
-/
import Derived.Test.YtfaepfnjilgioaaDoorScA26
set_option linter.all false
set_option linter.unusedSimpArgs false
set_option linter.unusedVariables false
namespace Go.Abs
open Go

theorem Con.frz {P : Program} {f : FuncId} {args : List SV} {κ : Key} {k n : Nat} {es : List (List PC)} (h : Con P f args [] [.one (.hs κ n)] [(κ, some (.hot k es))] [κ]) (hn : n = es.length) : Con P f args [] [.one (.p (.sl k es))] [] [] := by
  subst hn
  refine ⟨h.1, fun G ν w vs hS ha hB => Calls.mono (h.2 G ν w vs hS ha hB) ?_⟩
  rintro e w' ⟨v, rfl, G', ν', hv, hS', hB', hk, _, hnew⟩
  have hnoB : ∀ G'' ν'', SatB G'' ν'' w' (BL.fn []) := fun _ _ => ⟨fun κ o h => (noB h).elim, fun κ o h => (noB h).elim, fun κ o h => (noB h).elim, fun κ κ' o o' h => (noB h).elim⟩
  have hself : BL.fn [(κ, some (AO.hot k es))] κ = some (.hot k es) := B1_self κ _
  obtain ⟨a, e1, hcap, hap⟩ := (show RepC G' ν' (.hs κ es.length) v from hv)
  obtain ⟨h1, h2, h3⟩ := hB'.obj κ _ hself
  by_cases hc : (ν' κ).2 = 0
  · have hes : es = [] := by cases es with | nil => rfl | cons => simp at hcap; omega
    subst hes
    exact ⟨v, rfl, G', ν, by rw [e1]; exact RepP.sl 0 0 (fun _ => undef) hcap (by simp) (fun h => (h rfl).elim) (by simp) (by simp), hS', hnoB _ _, hk, fun _ _ => rfl, fun κ o h => (noB h).elim⟩
  · obtain ⟨us, el, hb, hsz, hu⟩ := h3 hc
    have hfree := hB'.free κ _ hself rfl hc
    have hlt := hB'.lt κ _ hself hc
    have hge : w.heap.size ≤ (ν' κ).1 := (hnew κ _ hself hc).resolve_left fun ⟨κ', o, h, _⟩ => (noB h).elim
    have hle : es.length * k ≤ (ν' κ).2 * k := Nat.mul_le_mul_right k h1
    have hrow : Row G' k es (us.toList.take (es.length * k)) := by
      refine ⟨by simp; omega, h2, fun i j c hc' => ?_⟩
      obtain ⟨u, g1, g2⟩ := hu i j c hc'
      refine ⟨u, ?_, g2⟩
      cases h : es[i]? with
      | none => rw [h] at hc'; simp at hc'
      | some q =>
        rw [h] at hc'; simp only [Option.bind_some] at hc'
        have hi' := (List.getElem?_eq_some_iff.1 h).1
        have hj' : j < k := by rw [← h2 q (List.mem_of_getElem? h)]; exact (List.getElem?_eq_some_iff.1 hc').1
        have : (i + 1) * k ≤ es.length * k := Nat.mul_le_mul_right k hi'
        rw [Nat.add_mul, Nat.one_mul] at this
        rw [List.getElem?_take, if_pos (by omega)]; simpa using g1
    let l := us.toList.take (es.length * k)
    have hG : G'.le (G'.set (ν' κ).1 l) := Frz.le_set (by rw [hfree]; exact List.nil_prefix)
    refine ⟨v, rfl, G'.set (ν' κ).1 l, ν, ?_, ?_, hnoB _ _, ?_, fun _ _ => rfl, fun κ o h => (noB h).elim⟩
    · rw [e1, hap hc]
      exact rep_of_row (hrow.mono hG) (fun j u hj => by rw [Frz.set_self, Nat.zero_add]; exact hj) hcap
    · intro r hr
      by_cases e : r = (ν' κ).1
      · subst e
        exact ⟨us, el, (0, 0), hb, by rw [Frz.set_self]; exact List.take_prefix _ _⟩
      · rw [Frz.set_ne _ _ e] at hr ⊢; exact hS' r hr
    · exact ⟨hk.size, hk.heap, fun r hr hx => by rw [Frz.set_ne _ _ (by omega)]; exact hk.fz r hr hx, Frz.le_trans hk.le hG, hk.tape, hk.os, hk.output⟩

end Go.Abs
