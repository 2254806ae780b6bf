/-
  PrintDeep: whatever two descriptions are given, the statement's function answers true, and leaves them as they were; the listed package variables are tied to the program's text.
-/
import Derived.Test.YtfaepfnjilgioaaDoorScP9
import Derived.Test.YtfaepfnjilgioaaDoorScA29
import Derived.Test.YtfaepfnjilgioaaDoorRows
import Derived.Test.YtfaepfnjilgioaaDoorCards
import Derived.Test.YtfaepfnjilgioaaDoorTie
import Derived.Lib.LaidTab
set_option linter.all false
set_option linter.unusedSimpArgs false
set_option linter.unusedVariables false
namespace Go.Proofs.YtfaepfnjilgioaaDoor
open Go Go.Abs Go.Sc Go.RowKit Go.WideShapes Go.ChangeShapes

/-! ### readings -/
theorem rdI : Rd Tryd.prog 3 1 (fun n : Int => [pI n]) (fun n => I64 n) := (Rd.int Tryd.underlying3 (by kernel_rfl)).map id (fun _ => rfl) (fun _ h => wf_i64 h) (fun _ => rfl)
theorem rdU : Rd Tryd.prog 28 1 (fun n : Int => [pU n]) (fun _ => True) := (Rd.int Tryd.underlying28 (by kernel_rfl)).map id (fun _ => rfl) (fun _ _ => trivial) (fun _ => rfl)
theorem rdC : Rd Tryd.prog 30 4 encC (fun _ => True) := (rdU.arr4 Tryd.underlying30 (by kernel_rfl)).map (fun x => ⟨x.1, x.2.1, x.2.2.1, x.2.2.2⟩) (fun _ => rfl) (fun _ _ => trivial) (fun _ => rfl)
theorem rdS : Rd Tryd.prog 9 1 (fun s : ByteArray => [pS s]) (fun s => s.size ≤ reachBytes) := Rd.str Tryd.underlying9 (by kernel_rfl)
theorem rdN : Rd Tryd.prog 32 10 encN (fun n => n.text.size ≤ reachBytes) :=
  (Rd.struct Tryd.underlying32 (by kernel_rfl)
    (RdF.cons rdI rfl (RdF.cons rdI rfl (RdF.cons rdI rfl (RdF.cons rdI rfl (RdF.cons rdI rfl (RdF.cons rdC rfl (RdF.cons rdS rfl (RdF.nil 10) rfl) rfl) rfl) rfl) rfl) rfl) rfl)).map
    (fun x => ⟨x.1, x.2.1, x.2.2.1, x.2.2.2.1, x.2.2.2.2.1, x.2.2.2.2.2.1, x.2.2.2.2.2.2.1⟩) (fun _ => rfl) (fun _ h => h.2.2.2.2.2.2.1) (fun _ => rfl)
theorem rdD : Rd Tryd.prog 24 1 (fun l : List Nd => [pN l]) (fun l => l.length * 88 ≤ reachBytes ∧ ∀ n ∈ l, n.text.size ≤ reachBytes) :=
  (Rd.struct Tryd.underlying24 (by kernel_rfl) (RdF.cons (rdN.slice (by decide) Tryd.underlying22 (by kernel_rfl)) rfl (RdF.nil 1) rfl)).map (fun x => x.1) (fun _ => rfl)
    (fun x h => ⟨by have := h.1.1; rwa [show Tryd.prog.bytesOf 32 = 88 from by kernel_rfl] at this, h.1.2⟩) (fun _ => rfl)

/-! ### the listed variables -/
theorem levels_data {H : Type} : (Rows.laid_scantling_print_levels : DataW H) = .map ([((4 : Int), (1 : Int)), (5, 0), (6, 2), (7, 2)].map fun x => (.int .i64 x.1, .lit (.int .i64 x.2))) := rfl
theorem pow_data {H : Type} : (Rows.laid_internal_strconv_uint64pow10 : DataW H) = Lib.tabData .u64 Lib.pow10Tab := rfl

theorem of_laid {W : World} (h : laidMetH Tryd.prog Rows.printDeepRow.laid W) : ∃ (q m : Obj) (ν : Pl), SatB (G0 W) ν W (BBt q m).fn := by
  rw [MakeChecks.laidMetH_plain _ _ _ (by kernel_rfl)] at h
  obtain ⟨ps, ⟨g0, t0, cs0, f0, p0, q0, hg0, ht0, hv0, hd0, ⟨g1, t1, cs1, f1, p1, q1, hg1, ht1, hv1, hd1, ⟨g2, t2, cs2, f2, p2, q2, hg2, ht2, hv2, hd2, ⟨g3, t3, cs3, f3, p3, q3, hg3, ht3, hv3, hd3, _, _⟩, _⟩, _⟩, _⟩, _, _⟩ := h
  obtain rfl := Option.some.inj ((show Tryd.prog.globalNamed "internal/strconv.uint64pow10" = some 2 by kernel_rfl).symm.trans hg2)
  obtain rfl := Option.some.inj ((show Tryd.prog.globalNamed "scantling/print.levels" = some 0 by kernel_rfl).symm.trans hg3)
  have et2 : (Tryd.prog.globals[2]?).map (·.type) = some _ := ht2
  rw [show (Tryd.prog.globals[2]?).map (·.type) = some 81 by kernel_rfl] at et2
  obtain rfl := Option.some.inj et2
  have et3 : (Tryd.prog.globals[0]?).map (·.type) = some _ := ht3
  rw [show (Tryd.prog.globals[0]?).map (·.type) = some 52 by kernel_rfl] at et3
  obtain rfl := Option.some.inj et3
  rw [levels_data] at hd3
  rw [pow_data] at hd2
  have hcs2 := Lib.cells_of_tab Tryd.underlying81 Tryd.underlying28 (by kernel_rfl) (by kernel_rfl) hd2
  have hb2 : ∃ t fr, W.heap[2]? = some (.cells cs2 t fr) := by
    have := hv2
    unfold World.var? at this
    rw [hg2] at this
    simp only [Option.bind_some] at this
    split at this
    · rename_i cs t fr h; cases this; exact ⟨t, fr, h⟩
    · cases this
  have hb3 : ∃ t fr, W.heap[0]? = some (.cells cs3 t fr) := by
    have := hv3
    unfold World.var? at this
    rw [hg3] at this
    simp only [Option.bind_some] at this
    split at this
    · rename_i cs t fr h; cases this; exact ⟨t, fr, h⟩
    · cases this
  obtain ⟨tq, fq, hb2⟩ := hb2
  obtain ⟨tm, fm, hb3⟩ := hb3
  obtain ⟨b, ents, clock, hcs, hb, hU⟩ := map_ints Tryd.underlying52 Tryd.underlying3 Tryd.underlying3 hd3
  have hne : b ≠ 2 := by
    intro e; subst e; rw [hb2] at hb; cases hb
  refine ⟨.cells cs2 tq fq, .map ents clock, fun κ => if κ = 2000 then (b, 0) else (2, 0), SatB.fixed rfl (fun κ o ho => ?_) (fun κ κ' o o' ho ho' hk => ?_)⟩
  · simp only [BBt, BL.fn, Go.Abs.look] at ho
    split at ho
    · rename_i e
      subst e
      simp at ho
      subst ho
      refine ⟨?_, hb, ents, clock, rfl, hU _ _⟩
      rw [G0_cells hb3, hcs]; rfl
    · split at ho
      · rename_i e
        subst e
        simp at ho
        subst ho
        refine ⟨rfl, hb2, cs2, tq, fq, rfl, ?_⟩
        rw [hcs2]
        have : ∀ l : List Int, All2 (RepP (G0 W)) (l.map fun z => pU z) (l.map fun z => Value.int .u64 z) := by
          intro l
          induction l with
          | nil => trivial
          | cons a l ih => exact ⟨.v _ rfl, ih⟩
        exact this _
      · simp at ho
  · simp only [BBt, BL.fn, Go.Abs.look] at ho ho'
    have h1 : κ = 2000 ∨ κ = 2002 := by
      split at ho
      · rename_i e; exact Or.inl e.symm
      · split at ho
        · rename_i e; exact Or.inr e.symm
        · simp at ho
    have h2 : κ' = 2000 ∨ κ' = 2002 := by
      split at ho'
      · rename_i e; exact Or.inl e.symm
      · split at ho'
        · rename_i e; exact Or.inr e.symm
        · simp at ho'
    rcases h1 with rfl | rfl <;> rcases h2 with rfl | rfl
    · exact (hk rfl).elim
    · simpa using hne
    · simpa using fun e => hne e.symm
    · exact (hk rfl).elim

theorem own : ownKnob Tryd.prog.godebug = none := by kernel_rfl
theorem laidOut : laidOutB Tryd.prog = true := by kernel_rfl

/-- the door's own heap meets the condition -/
theorem door_met (os : Os) (args : Array Value) : laidMetH Tryd.prog Rows.printDeepRow.laid ((World.doorLaid Tryd.prog 400 os).forCall (fun _ _ => 0) ⟨#[], args, []⟩).memory :=
  laidMetH_of_parts3 (fuel := 8) (laidMet_of_run' 8 (by kernel_rfl) (by kernel_rfl)) (by kernel_rfl) (by kernel_rfl)

theorem two_args {H : Type} {x y : DataW H} : Rows.printDeepSpec.fn H [x, y] = { results := [.lit (.bool true)], args := [x, y] } := rfl

set_option maxRecDepth 100000 in
theorem lifted (os : Os) (started : os.Started) (H : Type) (enc : TypeId × Value → H) :
    ReturnsInHanded {} Tryd.checked os 3 .any (fun w args => (Rows.printDeepSpec.pre enc Tryd.prog Tryd.f3 [] false w args ∧ laidMetH Tryd.prog Rows.printDeepRow.laid w) ∧ sizedMet enc Tryd.prog Tryd.f3 (OpenSpec.ofChange Rows.printDeepSpec) false w args)
      (Rows.printDeepSpec.post enc Tryd.prog Tryd.f3 false true false false) := by
  refine returnsInHanded_of_change_and (C := Tryd.checked) (X := fun w _ => laidMetH Tryd.prog Rows.printDeepRow.laid w) (fun _ _ _ hh h => h.of_heap hh) own started (by kernel_rfl) Tryd.func3
    (ChangeSpec.witness_shaped (enc := enc) (C := Tryd.checked) (os := os) (X := fun w _ => laidMetH Tryd.prog Rows.printDeepRow.laid w) false (World.doorLaid Tryd.prog 400 os) #[.agg #[.slice none 0 0], .agg #[.slice none 0 0]] 8 rfl (World.shaped_of_RefB (by kernel_rfl) (by kernel_rfl)) (by kernel_rfl) (by kernel_rfl) (by kernel_rfl) (door_met os _)) ?_
  intro W base args ds gs before hval0 hW _ hwt hL _
  have hval : ∀ (j : Nat) t v, Tryd.f3.params[j]? = some t → args[j]? = some v → Value.okWide Tryd.prog W .any base t v := hval0
  have hW' := hW
  obtain ⟨p, q, hA0, hV, rfl, hfz, hnd⟩ := hW
  have hA : DataW.TrodAll enc Tryd.prog W 0 (fun _ => true) true Tryd.f3.params.toList args.toList ds p := hA0
  rw [Tryd.params3] at hA hval
  obtain ⟨v0, v1, d0, d1, p0, p1, rfl, rfl, rfl, h0, h1⟩ := trodAll_two hA
  obtain ⟨rfl, rfl⟩ := trodVars_none hV
  have hwt' : (DataW.weightsEach Tryd.prog (Tryd.f3.params.toList ++ Rows.printDeepSpec.plain.varTypes Tryd.prog) ([d0, d1] ++ [])).all (· ≤ reachBytes) = true := hwt
  rw [Tryd.params3] at hwt'
  simp only [List.cons_append, List.nil_append, DataW.weightsEach, List.all_append, Bool.and_eq_true] at hwt'
  obtain ⟨qo, mo, ν, hB⟩ := of_laid hL
  obtain ⟨l0, r0, k0⟩ := rdD.argS (by first | exact Tryd.underlying24) (hval 0 24 v0 rfl rfl) h0 hwt'.1 ν
  obtain ⟨l1, r1, k1⟩ := rdD.argS (by first | exact Tryd.underlying24) (hval 1 24 v1 rfl rfl) h1 hwt'.2.1 ν
  have hreach : reachBytes = 140737488351232 := rfl
  rw [hreach] at k0 k1
  have hcon : Con Tryd.prog 3 [sD l0, sD l1] (BBt qo mo) [sB true] (BBt qo mo) [] := by
    by_cases hall : (few l0 && few l1 && formB l0 && formB l1) = true
    · simp only [Bool.and_eq_true] at hall
      obtain ⟨⟨⟨a1, a2⟩, a3⟩, a4⟩ := hall
      obtain ⟨t0, o0, rfl⟩ := tree_of_form a3
      obtain ⟨t1, o1, rfl⟩ := tree_of_form a4
      exact con_3_yes t0 t1 o0 o1 a1 a2 (fun x hx => by have := k0.2 x hx; omega) (fun x hx => by have := k1.2 x hx; omega) a3 a4
    · exact con_3_no l0 l1 (by omega) (by omega) (fun x hx => by have := k0.2 x hx; omega) (fun x hx => by have := k1.2 x hx; omega) (by simpa using hall)
  refine (hcon.calls (vs := [v0, v1]) rfl (Sat.all W) ⟨r0, r1, trivial⟩ hB).mono fun e W' ⟨he, hb⟩ => ⟨.bool true, he, ?_⟩
  exact law_post laidOut (by rw [Tryd.params3]; kernel_rfl) (by kernel_rfl) Tryd.underlying4 rfl hW' two_args hb

theorem printDeep_holds : Rows.PrintDeepSaid :=
  OpenClaim.holds_of_wide 3 Tryd.f3 rfl rfl rfl rfl rfl rfl rfl ⟨rfl, rfl, rfl, rfl, rfl⟩ rfl rfl rfl rfl rfl (by kernel_rfl) Tryd.func3 (by kernel_rfl)
    (of_decide_eq_true (by kernel_rfl)) (by unfold Func.isWrapper; first | (rw [if_pos (by decide +kernel)]; kernel_rfl) | (rw [if_neg (by decide +kernel)]; exact ⟨rfl, rfl⟩))
    (fun os started H enc _ => lifted os started H enc)

theorem printDeepCard_holds : Rows.PrintDeepCardSaid :=
  Claim7.holds_tied_plain_at .later [] [.data, .data, .data, .mapped] true (true, "50e48ae0308d484cb84415994fee2d7abbbfda00cf7d27f05c725473a3fb8566") false
    printDeep_holds (fun _ h => by cases h) (by kernel_rfl) (fun _ h => by cases h) printDeep_row_tie rfl ⟨rfl, rfl⟩ (by kernel_rfl) rfl
    (fun f fn hf hfn => by
      obtain rfl : f = 3 := Option.some.inj ((show Tryd.prog.funcNamed "scantling/scantlinglaw06.PrintDeep" = some 3 by kernel_rfl).symm.trans hf) |>.symm
      obtain rfl : fn = Tryd.f3 := (Option.some.inj (Tryd.func3.symm.trans hfn)).symm
      exact ⟨by kernel_rfl, fun j t ht => by
        rw [Tryd.params3] at ht
        have hm : t ∈ [24, 24] := by simpa using Array.mem_of_getElem? ht
        have hall : ([24, 24].all fun u => !Tryd.prog.wantsStandIn u) = true := by kernel_rfl
        exact (show Tryd.prog.wantsStandIn t = false by simpa using List.all_eq_true.1 hall t hm)⟩)
    (by kernel_rfl)
#print axioms printDeepCard_holds
end Go.Proofs.YtfaepfnjilgioaaDoor
