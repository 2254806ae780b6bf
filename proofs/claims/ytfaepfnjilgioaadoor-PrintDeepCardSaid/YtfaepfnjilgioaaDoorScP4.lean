/-
  PrintDeep: the walks of Utf8 and text. (Printed by a program of ours.)
-/
import Derived.Test.YtfaepfnjilgioaaDoorScP3
set_option linter.all false
set_option linter.unusedSimpArgs false
set_option linter.unusedVariables false
namespace Go.Sc
open Go Go.Proofs Go.Abs
set_option maxRecDepth 4000

theorem con_42 (s : ByteArray) (i : Nat) (lo hi : Int) : Con Tryd.prog 42 [sS s, sI i, sI lo, sI hi] [] [sB (inR s i lo hi)] [] [] := by
  have hb := byteAt_lt s i
  refine con_of_J [] Tryd.func42 rfl rfl Tryd.ntmps42 rfl (Nat.le_of_ble_eq_true rfl) rfl rfl ?_
  refine J.seq ?_
  refine J.region ?_
  refine R.assign (GOk.no rfl) rfl rfl ?_
  refine Run.nil ⟨by kernel_rfl, ?_⟩
  refine J.seq ?_
  refine J.region ?_
  refine R.move (GOk.no rfl) rfl rfl ?_
  refine R.move (GOk.no rfl) rfl rfl ?_
  refine R.lenS Tryd.underlying9 (GOk.no rfl) rfl rfl ?_
  refine R.lss (GOk.no rfl) rfl rfl rfl ?_
  refine R.move (GOk.no rfl) rfl rfl ?_
  refine R.case 13 rfl (fun hg1 => ?_) (fun hg1 => ?_)
  · try simp only [decide_eq_true_eq, decide_eq_false_iff_not, beq_iff_eq, beq_eq_false_iff_ne, bne_iff_ne, bne_eq_false_iff_eq, ne_eq, Bool.not_eq_true', Bool.not_eq_false', Decidable.not_not] at hg1
    refine R.move (GOk.of rfl rfl rfl _ rfl) rfl rfl ?_
    refine R.move (GOk.of rfl rfl rfl _ rfl) rfl rfl ?_
    refine R.idxSM Tryd.underlying9 (GOk.of rfl rfl rfl _ rfl) rfl rfl rfl (by omega) (by omega) ?_
    refine R.spell 16 rfl (show _ = vU8 ((byteAt s (i) : Nat) : Int) from rfl) ?_
    first | refine R.convI (GOk.of rfl rfl rfl _ rfl) rfl rfl Tryd.underlying5 Tryd.underlying3 (wrap_i64 ⟨by omega, by omega⟩) ?_ | refine R.convI (GOk.of rfl rfl rfl _ rfl) rfl rfl Tryd.underlying5 Tryd.underlying3 (by decide) ?_ | refine R.conv (GOk.of rfl rfl rfl _ rfl) rfl rfl Tryd.underlying5 Tryd.underlying3 ?_
    refine R.move (GOk.of rfl rfl rfl _ rfl) rfl rfl ?_
    refine R.geq (GOk.of rfl rfl rfl _ rfl) rfl rfl rfl ?_
    first | refine R.pickT (GOk.no rfl) rfl rfl rfl ?_ | refine R.pickF (GOk.no rfl) rfl rfl rfl ?_
    refine R.move (GOk.no rfl) rfl rfl ?_
    refine R.case 21 rfl (fun hg2 => ?_) (fun hg2 => ?_)
    · try simp only [decide_eq_true_eq, decide_eq_false_iff_not, beq_iff_eq, beq_eq_false_iff_ne, bne_iff_ne, bne_eq_false_iff_eq, ne_eq, Bool.not_eq_true', Bool.not_eq_false', Decidable.not_not] at hg2
      refine R.move (GOk.of rfl rfl rfl _ rfl) rfl rfl ?_
      refine R.move (GOk.of rfl rfl rfl _ rfl) rfl rfl ?_
      refine R.idxSM Tryd.underlying9 (GOk.of rfl rfl rfl _ rfl) rfl rfl rfl (by omega) (by omega) ?_
      refine R.spell 24 rfl (show _ = vU8 ((byteAt s (i) : Nat) : Int) from rfl) ?_
      first | refine R.convI (GOk.of rfl rfl rfl _ rfl) rfl rfl Tryd.underlying5 Tryd.underlying3 (wrap_i64 ⟨by omega, by omega⟩) ?_ | refine R.convI (GOk.of rfl rfl rfl _ rfl) rfl rfl Tryd.underlying5 Tryd.underlying3 (by decide) ?_ | refine R.conv (GOk.of rfl rfl rfl _ rfl) rfl rfl Tryd.underlying5 Tryd.underlying3 ?_
      refine R.move (GOk.of rfl rfl rfl _ rfl) rfl rfl ?_
      refine R.leq (GOk.of rfl rfl rfl _ rfl) rfl rfl rfl ?_
      first | refine R.pickT (GOk.no rfl) rfl rfl rfl ?_ | refine R.pickF (GOk.no rfl) rfl rfl rfl ?_
      refine R.assign (GOk.no rfl) rfl rfl ?_
      refine Run.nil ⟨by kernel_rfl, ?_⟩
      refine J.ret ?_
      exact FinQ.of ⟨ret_eq rfl (svB (by simp [inR, *] <;> omega)), trivial⟩ trivial
    · try simp only [decide_eq_true_eq, decide_eq_false_iff_not, beq_iff_eq, beq_eq_false_iff_ne, bne_iff_ne, bne_eq_false_iff_eq, ne_eq, Bool.not_eq_true', Bool.not_eq_false', Decidable.not_not] at hg2
      refine R.pass (GOk.of rfl rfl rfl _ rfl) rfl ?_
      refine R.pass (GOk.of rfl rfl rfl _ rfl) rfl ?_
      refine R.pass (GOk.of rfl rfl rfl _ rfl) rfl ?_
      refine R.pass (GOk.of rfl rfl rfl _ rfl) rfl ?_
      refine R.pass (GOk.of rfl rfl rfl _ rfl) rfl ?_
      refine R.pass (GOk.of rfl rfl rfl _ rfl) rfl ?_
      first | refine R.pickT (GOk.no rfl) rfl rfl rfl ?_ | refine R.pickF (GOk.no rfl) rfl rfl rfl ?_
      refine R.assign (GOk.no rfl) rfl rfl ?_
      refine Run.nil ⟨by kernel_rfl, ?_⟩
      refine J.ret ?_
      exact FinQ.of ⟨ret_eq rfl (svB (by simp [inR, *] <;> omega)), trivial⟩ trivial
  · try simp only [decide_eq_true_eq, decide_eq_false_iff_not, beq_iff_eq, beq_eq_false_iff_ne, bne_iff_ne, bne_eq_false_iff_eq, ne_eq, Bool.not_eq_true', Bool.not_eq_false', Decidable.not_not] at hg1
    refine R.pass (GOk.of rfl rfl rfl _ rfl) rfl ?_
    refine R.pass (GOk.of rfl rfl rfl _ rfl) rfl ?_
    refine R.pass (GOk.of rfl rfl rfl _ rfl) rfl ?_
    refine R.pass (GOk.of rfl rfl rfl _ rfl) rfl ?_
    refine R.pass (GOk.of rfl rfl rfl _ rfl) rfl ?_
    refine R.pass (GOk.of rfl rfl rfl _ rfl) rfl ?_
    first | refine R.pickT (GOk.no rfl) rfl rfl rfl ?_ | refine R.pickF (GOk.no rfl) rfl rfl rfl ?_
    refine R.move (GOk.no rfl) rfl rfl ?_
    refine R.pass (GOk.of rfl rfl rfl _ rfl) rfl ?_
    refine R.pass (GOk.of rfl rfl rfl _ rfl) rfl ?_
    refine R.pass (GOk.of rfl rfl rfl _ rfl) rfl ?_
    refine R.pass (GOk.of rfl rfl rfl _ rfl) rfl ?_
    refine R.pass (GOk.of rfl rfl rfl _ rfl) rfl ?_
    refine R.pass (GOk.of rfl rfl rfl _ rfl) rfl ?_
    first | refine R.pickT (GOk.no rfl) rfl rfl rfl ?_ | refine R.pickF (GOk.no rfl) rfl rfl rfl ?_
    refine R.assign (GOk.no rfl) rfl rfl ?_
    refine Run.nil ⟨by kernel_rfl, ?_⟩
    refine J.ret ?_
    exact FinQ.of ⟨ret_eq rfl (svB (by simp [inR, *] <;> omega)), trivial⟩ trivial
theorem con_38 (s : ByteArray) (hs : s.size ≤ 4611686018427387904) : Con Tryd.prog 38 [sS s] [] [sB (utf8 s)] [] [] := by
  refine con_of_J [] Tryd.func38 rfl rfl Tryd.ntmps38 rfl (Nat.le_of_ble_eq_true rfl) rfl rfl ?_
  refine J.seq ?_
  refine J.region ?_
  refine R.assign (GOk.no rfl) rfl rfl ?_
  refine Run.nil ⟨by kernel_rfl, ?_⟩
  refine J.seq ?_
  refine J.region ?_
  refine R.assign (GOk.no rfl) rfl rfl ?_
  refine Run.nil ⟨by kernel_rfl, ?_⟩
  refine J.seq ?_
  refine J.block ?_
  refine J.gh (Gh.weak [(0, vS s), (3, vI ((0 : Nat) : Int))] [] ⟨rfl, rfl, trivial⟩ trivial) ?_
  refine J.loopG (fun (i : Nat) f b => (utf8F s i = utf8 s) ∧ f = Facts.fn [(0, vS s), (3, vI ((i : Nat) : Int))] ∧ b = BL.fn []) (fun i => s.size - i) 0 ⟨rfl, rfl, rfl⟩ ?_
  rintro i f b ⟨hI, rfl, rfl⟩
  have hb := byteAt_lt s i
  refine J.seq ?_
  refine J.seq ?_
  refine J.region ?_
  refine R.move (GOk.no rfl) rfl rfl ?_
  refine R.move (GOk.no rfl) rfl rfl ?_
  refine R.lenS Tryd.underlying9 (GOk.no rfl) rfl rfl ?_
  refine R.lss (GOk.no rfl) rfl rfl rfl ?_
  refine Run.nil ⟨by kernel_rfl, ?_⟩
  refine J.cond rfl (fun hc1 => ?_) (fun hc1 => ?_)
  · try simp only [decide_eq_true_eq, decide_eq_false_iff_not, beq_iff_eq, beq_eq_false_iff_ne, bne_iff_ne, bne_eq_false_iff_eq, ne_eq, Bool.not_eq_true', Bool.not_eq_false', Decidable.not_not] at hc1
    refine J.skip ?_
    refine J.block ?_
    refine J.seq ?_
    refine J.region ?_
    refine R.move (GOk.no rfl) rfl rfl ?_
    refine R.move (GOk.no rfl) rfl rfl ?_
    refine R.idxSM Tryd.underlying9 (GOk.no rfl) rfl rfl rfl (by omega) (by omega) ?_
    refine R.spell 14 rfl (show _ = vU8 ((byteAt s (i) : Nat) : Int) from rfl) ?_
    first | refine R.convI (GOk.no rfl) rfl rfl Tryd.underlying5 Tryd.underlying3 (wrap_i64 ⟨by omega, by omega⟩) ?_ | refine R.convI (GOk.no rfl) rfl rfl Tryd.underlying5 Tryd.underlying3 (by decide) ?_ | refine R.conv (GOk.no rfl) rfl rfl Tryd.underlying5 Tryd.underlying3 ?_
    refine R.assign (GOk.no rfl) rfl rfl ?_
    refine Run.nil ⟨by kernel_rfl, ?_⟩
    refine J.seq ?_
    refine J.region ?_
    refine R.move (GOk.no rfl) rfl rfl ?_
    refine R.move (GOk.no rfl) rfl rfl ?_
    refine R.add (GOk.no rfl) rfl rfl rfl ⟨by omega, by omega⟩ ?_
    refine R.call [((.tmp 16), _), ((.tmp 18), _), ((.const _), _), ((.const _), _)] (con_42 s (i + 1) 128 191) rfl (GOk.no rfl) rfl ⟨rfl, rfl, rfl, rfl, trivial⟩ ?_
    refine R.assign (GOk.no rfl) rfl rfl ?_
    refine Run.nil ⟨by kernel_rfl, ?_⟩
    refine J.seq ?_
    refine J.region ?_
    refine R.move (GOk.no rfl) rfl rfl ?_
    refine R.move (GOk.no rfl) rfl rfl ?_
    refine R.add (GOk.no rfl) rfl rfl rfl ⟨by omega, by omega⟩ ?_
    refine R.call [((.tmp 20), _), ((.tmp 22), _), ((.const _), _), ((.const _), _)] (con_42 s (i + 2) 128 191) rfl (GOk.no rfl) rfl ⟨rfl, rfl, rfl, rfl, trivial⟩ ?_
    refine R.assign (GOk.no rfl) rfl rfl ?_
    refine Run.nil ⟨by kernel_rfl, ?_⟩
    refine J.seq ?_
    refine J.region ?_
    refine R.move (GOk.no rfl) rfl rfl ?_
    refine R.move (GOk.no rfl) rfl rfl ?_
    refine R.add (GOk.no rfl) rfl rfl rfl ⟨by omega, by omega⟩ ?_
    refine R.call [((.tmp 24), _), ((.tmp 26), _), ((.const _), _), ((.const _), _)] (con_42 s (i + 3) 128 191) rfl (GOk.no rfl) rfl ⟨rfl, rfl, rfl, rfl, trivial⟩ ?_
    refine R.assign (GOk.no rfl) rfl rfl ?_
    refine Run.nil ⟨by kernel_rfl, ?_⟩
    refine J.block ?_
    refine J.seq ?_
    refine J.region ?_
    refine R.move (GOk.no rfl) rfl rfl ?_
    refine R.lss (GOk.no rfl) rfl rfl rfl ?_
    refine R.assign (GOk.no rfl) rfl rfl ?_
    refine Run.nil ⟨by kernel_rfl, ?_⟩
    refine J.cond rfl (fun hc2 => ?_) (fun hc2 => ?_)
    · try simp only [decide_eq_true_eq, decide_eq_false_iff_not, beq_iff_eq, beq_eq_false_iff_ne, bne_iff_ne, bne_eq_false_iff_eq, ne_eq, Bool.not_eq_true', Bool.not_eq_false', Decidable.not_not] at hc2
      refine J.region ?_
      refine R.move (GOk.no rfl) rfl rfl ?_
      refine R.add (GOk.no rfl) rfl rfl rfl ⟨by omega, by omega⟩ ?_
      refine R.assign (GOk.no rfl) rfl rfl ?_
      refine Run.nil ⟨by kernel_rfl, ?_⟩
      first | exact toQ.mk (Gh.weak [(0, vS s), (3, vI ((i + 1 : Nat) : Int))] [] ⟨rfl, rfl, trivial⟩ trivial) ⟨i + 1, ⟨by rw [← utf8F_some (k := 1) (by omega) (by simp only [stepU, stepV]; simp [*])]; exact hI, rfl, rfl⟩, by omega⟩ | exact toQ.mk (Gh.weak [(0, vS s), (3, vI ((i + 2 : Nat) : Int))] [] ⟨rfl, rfl, trivial⟩ trivial) ⟨i + 2, ⟨by rw [← utf8F_some (k := 2) (by omega) (by simp only [stepU, stepV]; simp [*])]; exact hI, rfl, rfl⟩, by omega⟩ | exact toQ.mk (Gh.weak [(0, vS s), (3, vI ((i + 3 : Nat) : Int))] [] ⟨rfl, rfl, trivial⟩ trivial) ⟨i + 3, ⟨by rw [← utf8F_some (k := 3) (by omega) (by simp only [stepU, stepV]; simp [*])]; exact hI, rfl, rfl⟩, by omega⟩ | exact toQ.mk (Gh.weak [(0, vS s), (3, vI ((i + 4 : Nat) : Int))] [] ⟨rfl, rfl, trivial⟩ trivial) ⟨i + 4, ⟨by rw [← utf8F_some (k := 4) (by omega) (by simp only [stepU, stepV]; simp [*])]; exact hI, rfl, rfl⟩, by omega⟩
    · try simp only [decide_eq_true_eq, decide_eq_false_iff_not, beq_iff_eq, beq_eq_false_iff_ne, bne_iff_ne, bne_eq_false_iff_eq, ne_eq, Bool.not_eq_true', Bool.not_eq_false', Decidable.not_not] at hc2
      refine J.joinF [(0, vS s), (3, vI ((i : Nat) : Int)), (4, vI ((byteAt s i : Nat) : Int)), (5, vB (inR s (i + 1) 128 191)), (6, vB (inR s (i + 2) 128 191)), (7, vB (inR s (i + 3) 128 191)), (33, vB (decide (194 ≤ (byteAt s i : Int)) && decide ((byteAt s i : Int) ≤ 223) && (inR s (i + 1) 128 191)))] [] ?_ ?_
      ·  -- behind r10
        refine J.cond rfl (fun hc3 => ?_) (fun hc3 => ?_)
        · try simp only [decide_eq_true_eq, decide_eq_false_iff_not, beq_iff_eq, beq_eq_false_iff_ne, bne_iff_ne, bne_eq_false_iff_eq, ne_eq, Bool.not_eq_true', Bool.not_eq_false', Decidable.not_not] at hc3
          refine J.region ?_
          refine R.move (GOk.no rfl) rfl rfl ?_
          refine R.add (GOk.no rfl) rfl rfl rfl ⟨by omega, by omega⟩ ?_
          refine R.assign (GOk.no rfl) rfl rfl ?_
          refine Run.nil ⟨by kernel_rfl, ?_⟩
          first | exact toQ.mk (Gh.weak [(0, vS s), (3, vI ((i + 1 : Nat) : Int))] [] ⟨rfl, rfl, trivial⟩ trivial) ⟨i + 1, ⟨by rw [← utf8F_some (k := 1) (by omega) (by simp only [stepU, stepV]; simp [*])]; exact hI, rfl, rfl⟩, by omega⟩ | exact toQ.mk (Gh.weak [(0, vS s), (3, vI ((i + 2 : Nat) : Int))] [] ⟨rfl, rfl, trivial⟩ trivial) ⟨i + 2, ⟨by rw [← utf8F_some (k := 2) (by omega) (by simp only [stepU, stepV]; simp [*])]; exact hI, rfl, rfl⟩, by omega⟩ | exact toQ.mk (Gh.weak [(0, vS s), (3, vI ((i + 3 : Nat) : Int))] [] ⟨rfl, rfl, trivial⟩ trivial) ⟨i + 3, ⟨by rw [← utf8F_some (k := 3) (by omega) (by simp only [stepU, stepV]; simp [*])]; exact hI, rfl, rfl⟩, by omega⟩ | exact toQ.mk (Gh.weak [(0, vS s), (3, vI ((i + 4 : Nat) : Int))] [] ⟨rfl, rfl, trivial⟩ trivial) ⟨i + 4, ⟨by rw [← utf8F_some (k := 4) (by omega) (by simp only [stepU, stepV]; simp [*])]; exact hI, rfl, rfl⟩, by omega⟩
        · try simp only [decide_eq_true_eq, decide_eq_false_iff_not, beq_iff_eq, beq_eq_false_iff_ne, bne_iff_ne, bne_eq_false_iff_eq, ne_eq, Bool.not_eq_true', Bool.not_eq_false', Decidable.not_not] at hc3
          refine J.joinF [(0, vS s), (3, vI ((i : Nat) : Int)), (4, vI ((byteAt s i : Nat) : Int)), (5, vB (inR s (i + 1) 128 191)), (6, vB (inR s (i + 2) 128 191)), (7, vB (inR s (i + 3) 128 191)), (45, vB (decide ((byteAt s i : Int) = 224) && inR s (i + 1) 160 191 && (inR s (i + 2) 128 191)))] [] ?_ ?_
          ·  -- behind r12
            refine J.cond rfl (fun hc4 => ?_) (fun hc4 => ?_)
            · try simp only [decide_eq_true_eq, decide_eq_false_iff_not, beq_iff_eq, beq_eq_false_iff_ne, bne_iff_ne, bne_eq_false_iff_eq, ne_eq, Bool.not_eq_true', Bool.not_eq_false', Decidable.not_not] at hc4
              refine J.region ?_
              refine R.move (GOk.no rfl) rfl rfl ?_
              refine R.add (GOk.no rfl) rfl rfl rfl ⟨by omega, by omega⟩ ?_
              refine R.assign (GOk.no rfl) rfl rfl ?_
              refine Run.nil ⟨by kernel_rfl, ?_⟩
              first | exact toQ.mk (Gh.weak [(0, vS s), (3, vI ((i + 1 : Nat) : Int))] [] ⟨rfl, rfl, trivial⟩ trivial) ⟨i + 1, ⟨by rw [← utf8F_some (k := 1) (by omega) (by simp only [stepU, stepV]; simp [*])]; exact hI, rfl, rfl⟩, by omega⟩ | exact toQ.mk (Gh.weak [(0, vS s), (3, vI ((i + 2 : Nat) : Int))] [] ⟨rfl, rfl, trivial⟩ trivial) ⟨i + 2, ⟨by rw [← utf8F_some (k := 2) (by omega) (by simp only [stepU, stepV]; simp [*])]; exact hI, rfl, rfl⟩, by omega⟩ | exact toQ.mk (Gh.weak [(0, vS s), (3, vI ((i + 3 : Nat) : Int))] [] ⟨rfl, rfl, trivial⟩ trivial) ⟨i + 3, ⟨by rw [← utf8F_some (k := 3) (by omega) (by simp only [stepU, stepV]; simp [*])]; exact hI, rfl, rfl⟩, by omega⟩ | exact toQ.mk (Gh.weak [(0, vS s), (3, vI ((i + 4 : Nat) : Int))] [] ⟨rfl, rfl, trivial⟩ trivial) ⟨i + 4, ⟨by rw [← utf8F_some (k := 4) (by omega) (by simp only [stepU, stepV]; simp [*])]; exact hI, rfl, rfl⟩, by omega⟩
            · try simp only [decide_eq_true_eq, decide_eq_false_iff_not, beq_iff_eq, beq_eq_false_iff_ne, bne_iff_ne, bne_eq_false_iff_eq, ne_eq, Bool.not_eq_true', Bool.not_eq_false', Decidable.not_not] at hc4
              refine J.joinF [(0, vS s), (3, vI ((i : Nat) : Int)), (4, vI ((byteAt s i : Nat) : Int)), (5, vB (inR s (i + 1) 128 191)), (6, vB (inR s (i + 2) 128 191)), (7, vB (inR s (i + 3) 128 191)), (59, vB ((decide (225 ≤ (byteAt s i : Int)) && decide ((byteAt s i : Int) ≤ 236) || decide ((byteAt s i : Int) = 238) || decide ((byteAt s i : Int) = 239)) && (inR s (i + 1) 128 191) && (inR s (i + 2) 128 191)))] [] ?_ ?_
              ·  -- behind r14
                refine J.cond rfl (fun hc5 => ?_) (fun hc5 => ?_)
                · try simp only [decide_eq_true_eq, decide_eq_false_iff_not, beq_iff_eq, beq_eq_false_iff_ne, bne_iff_ne, bne_eq_false_iff_eq, ne_eq, Bool.not_eq_true', Bool.not_eq_false', Decidable.not_not] at hc5
                  refine J.region ?_
                  refine R.move (GOk.no rfl) rfl rfl ?_
                  refine R.add (GOk.no rfl) rfl rfl rfl ⟨by omega, by omega⟩ ?_
                  refine R.assign (GOk.no rfl) rfl rfl ?_
                  refine Run.nil ⟨by kernel_rfl, ?_⟩
                  first | exact toQ.mk (Gh.weak [(0, vS s), (3, vI ((i + 1 : Nat) : Int))] [] ⟨rfl, rfl, trivial⟩ trivial) ⟨i + 1, ⟨by rw [← utf8F_some (k := 1) (by omega) (by simp only [stepU, stepV]; simp [*])]; exact hI, rfl, rfl⟩, by omega⟩ | exact toQ.mk (Gh.weak [(0, vS s), (3, vI ((i + 2 : Nat) : Int))] [] ⟨rfl, rfl, trivial⟩ trivial) ⟨i + 2, ⟨by rw [← utf8F_some (k := 2) (by omega) (by simp only [stepU, stepV]; simp [*])]; exact hI, rfl, rfl⟩, by omega⟩ | exact toQ.mk (Gh.weak [(0, vS s), (3, vI ((i + 3 : Nat) : Int))] [] ⟨rfl, rfl, trivial⟩ trivial) ⟨i + 3, ⟨by rw [← utf8F_some (k := 3) (by omega) (by simp only [stepU, stepV]; simp [*])]; exact hI, rfl, rfl⟩, by omega⟩ | exact toQ.mk (Gh.weak [(0, vS s), (3, vI ((i + 4 : Nat) : Int))] [] ⟨rfl, rfl, trivial⟩ trivial) ⟨i + 4, ⟨by rw [← utf8F_some (k := 4) (by omega) (by simp only [stepU, stepV]; simp [*])]; exact hI, rfl, rfl⟩, by omega⟩
                · try simp only [decide_eq_true_eq, decide_eq_false_iff_not, beq_iff_eq, beq_eq_false_iff_ne, bne_iff_ne, bne_eq_false_iff_eq, ne_eq, Bool.not_eq_true', Bool.not_eq_false', Decidable.not_not] at hc5
                  refine J.joinF [(0, vS s), (3, vI ((i : Nat) : Int)), (4, vI ((byteAt s i : Nat) : Int)), (5, vB (inR s (i + 1) 128 191)), (6, vB (inR s (i + 2) 128 191)), (7, vB (inR s (i + 3) 128 191)), (82, vB (decide ((byteAt s i : Int) = 237) && inR s (i + 1) 128 159 && (inR s (i + 2) 128 191)))] [] ?_ ?_
                  ·  -- behind r16
                    refine J.cond rfl (fun hc6 => ?_) (fun hc6 => ?_)
                    · try simp only [decide_eq_true_eq, decide_eq_false_iff_not, beq_iff_eq, beq_eq_false_iff_ne, bne_iff_ne, bne_eq_false_iff_eq, ne_eq, Bool.not_eq_true', Bool.not_eq_false', Decidable.not_not] at hc6
                      refine J.region ?_
                      refine R.move (GOk.no rfl) rfl rfl ?_
                      refine R.add (GOk.no rfl) rfl rfl rfl ⟨by omega, by omega⟩ ?_
                      refine R.assign (GOk.no rfl) rfl rfl ?_
                      refine Run.nil ⟨by kernel_rfl, ?_⟩
                      first | exact toQ.mk (Gh.weak [(0, vS s), (3, vI ((i + 1 : Nat) : Int))] [] ⟨rfl, rfl, trivial⟩ trivial) ⟨i + 1, ⟨by rw [← utf8F_some (k := 1) (by omega) (by simp only [stepU, stepV]; simp [*])]; exact hI, rfl, rfl⟩, by omega⟩ | exact toQ.mk (Gh.weak [(0, vS s), (3, vI ((i + 2 : Nat) : Int))] [] ⟨rfl, rfl, trivial⟩ trivial) ⟨i + 2, ⟨by rw [← utf8F_some (k := 2) (by omega) (by simp only [stepU, stepV]; simp [*])]; exact hI, rfl, rfl⟩, by omega⟩ | exact toQ.mk (Gh.weak [(0, vS s), (3, vI ((i + 3 : Nat) : Int))] [] ⟨rfl, rfl, trivial⟩ trivial) ⟨i + 3, ⟨by rw [← utf8F_some (k := 3) (by omega) (by simp only [stepU, stepV]; simp [*])]; exact hI, rfl, rfl⟩, by omega⟩ | exact toQ.mk (Gh.weak [(0, vS s), (3, vI ((i + 4 : Nat) : Int))] [] ⟨rfl, rfl, trivial⟩ trivial) ⟨i + 4, ⟨by rw [← utf8F_some (k := 4) (by omega) (by simp only [stepU, stepV]; simp [*])]; exact hI, rfl, rfl⟩, by omega⟩
                    · try simp only [decide_eq_true_eq, decide_eq_false_iff_not, beq_iff_eq, beq_eq_false_iff_ne, bne_iff_ne, bne_eq_false_iff_eq, ne_eq, Bool.not_eq_true', Bool.not_eq_false', Decidable.not_not] at hc6
                      refine J.joinF [(0, vS s), (3, vI ((i : Nat) : Int)), (4, vI ((byteAt s i : Nat) : Int)), (5, vB (inR s (i + 1) 128 191)), (6, vB (inR s (i + 2) 128 191)), (7, vB (inR s (i + 3) 128 191)), (96, vB (decide ((byteAt s i : Int) = 240) && inR s (i + 1) 144 191 && (inR s (i + 2) 128 191) && (inR s (i + 3) 128 191)))] [] ?_ ?_
                      ·  -- behind r18
                        refine J.cond rfl (fun hc7 => ?_) (fun hc7 => ?_)
                        · try simp only [decide_eq_true_eq, decide_eq_false_iff_not, beq_iff_eq, beq_eq_false_iff_ne, bne_iff_ne, bne_eq_false_iff_eq, ne_eq, Bool.not_eq_true', Bool.not_eq_false', Decidable.not_not] at hc7
                          refine J.region ?_
                          refine R.move (GOk.no rfl) rfl rfl ?_
                          refine R.add (GOk.no rfl) rfl rfl rfl ⟨by omega, by omega⟩ ?_
                          refine R.assign (GOk.no rfl) rfl rfl ?_
                          refine Run.nil ⟨by kernel_rfl, ?_⟩
                          first | exact toQ.mk (Gh.weak [(0, vS s), (3, vI ((i + 1 : Nat) : Int))] [] ⟨rfl, rfl, trivial⟩ trivial) ⟨i + 1, ⟨by rw [← utf8F_some (k := 1) (by omega) (by simp only [stepU, stepV]; simp [*])]; exact hI, rfl, rfl⟩, by omega⟩ | exact toQ.mk (Gh.weak [(0, vS s), (3, vI ((i + 2 : Nat) : Int))] [] ⟨rfl, rfl, trivial⟩ trivial) ⟨i + 2, ⟨by rw [← utf8F_some (k := 2) (by omega) (by simp only [stepU, stepV]; simp [*])]; exact hI, rfl, rfl⟩, by omega⟩ | exact toQ.mk (Gh.weak [(0, vS s), (3, vI ((i + 3 : Nat) : Int))] [] ⟨rfl, rfl, trivial⟩ trivial) ⟨i + 3, ⟨by rw [← utf8F_some (k := 3) (by omega) (by simp only [stepU, stepV]; simp [*])]; exact hI, rfl, rfl⟩, by omega⟩ | exact toQ.mk (Gh.weak [(0, vS s), (3, vI ((i + 4 : Nat) : Int))] [] ⟨rfl, rfl, trivial⟩ trivial) ⟨i + 4, ⟨by rw [← utf8F_some (k := 4) (by omega) (by simp only [stepU, stepV]; simp [*])]; exact hI, rfl, rfl⟩, by omega⟩
                        · try simp only [decide_eq_true_eq, decide_eq_false_iff_not, beq_iff_eq, beq_eq_false_iff_ne, bne_iff_ne, bne_eq_false_iff_eq, ne_eq, Bool.not_eq_true', Bool.not_eq_false', Decidable.not_not] at hc7
                          refine J.joinF [(0, vS s), (3, vI ((i : Nat) : Int)), (4, vI ((byteAt s i : Nat) : Int)), (5, vB (inR s (i + 1) 128 191)), (6, vB (inR s (i + 2) 128 191)), (7, vB (inR s (i + 3) 128 191)), (113, vB (decide (241 ≤ (byteAt s i : Int)) && decide ((byteAt s i : Int) ≤ 243) && (inR s (i + 1) 128 191) && (inR s (i + 2) 128 191) && (inR s (i + 3) 128 191)))] [] ?_ ?_
                          ·  -- behind r20
                            refine J.cond rfl (fun hc8 => ?_) (fun hc8 => ?_)
                            · try simp only [decide_eq_true_eq, decide_eq_false_iff_not, beq_iff_eq, beq_eq_false_iff_ne, bne_iff_ne, bne_eq_false_iff_eq, ne_eq, Bool.not_eq_true', Bool.not_eq_false', Decidable.not_not] at hc8
                              refine J.region ?_
                              refine R.move (GOk.no rfl) rfl rfl ?_
                              refine R.add (GOk.no rfl) rfl rfl rfl ⟨by omega, by omega⟩ ?_
                              refine R.assign (GOk.no rfl) rfl rfl ?_
                              refine Run.nil ⟨by kernel_rfl, ?_⟩
                              first | exact toQ.mk (Gh.weak [(0, vS s), (3, vI ((i + 1 : Nat) : Int))] [] ⟨rfl, rfl, trivial⟩ trivial) ⟨i + 1, ⟨by rw [← utf8F_some (k := 1) (by omega) (by simp only [stepU, stepV]; simp [*])]; exact hI, rfl, rfl⟩, by omega⟩ | exact toQ.mk (Gh.weak [(0, vS s), (3, vI ((i + 2 : Nat) : Int))] [] ⟨rfl, rfl, trivial⟩ trivial) ⟨i + 2, ⟨by rw [← utf8F_some (k := 2) (by omega) (by simp only [stepU, stepV]; simp [*])]; exact hI, rfl, rfl⟩, by omega⟩ | exact toQ.mk (Gh.weak [(0, vS s), (3, vI ((i + 3 : Nat) : Int))] [] ⟨rfl, rfl, trivial⟩ trivial) ⟨i + 3, ⟨by rw [← utf8F_some (k := 3) (by omega) (by simp only [stepU, stepV]; simp [*])]; exact hI, rfl, rfl⟩, by omega⟩ | exact toQ.mk (Gh.weak [(0, vS s), (3, vI ((i + 4 : Nat) : Int))] [] ⟨rfl, rfl, trivial⟩ trivial) ⟨i + 4, ⟨by rw [← utf8F_some (k := 4) (by omega) (by simp only [stepU, stepV]; simp [*])]; exact hI, rfl, rfl⟩, by omega⟩
                            · try simp only [decide_eq_true_eq, decide_eq_false_iff_not, beq_iff_eq, beq_eq_false_iff_ne, bne_iff_ne, bne_eq_false_iff_eq, ne_eq, Bool.not_eq_true', Bool.not_eq_false', Decidable.not_not] at hc8
                              refine J.joinF [(0, vS s), (3, vI ((i : Nat) : Int)), (4, vI ((byteAt s i : Nat) : Int)), (5, vB (inR s (i + 1) 128 191)), (6, vB (inR s (i + 2) 128 191)), (7, vB (inR s (i + 3) 128 191)), (131, vB (decide ((byteAt s i : Int) = 244) && inR s (i + 1) 128 143 && (inR s (i + 2) 128 191) && (inR s (i + 3) 128 191)))] [] ?_ ?_
                              ·  -- behind r22
                                refine J.cond rfl (fun hc9 => ?_) (fun hc9 => ?_)
                                · try simp only [decide_eq_true_eq, decide_eq_false_iff_not, beq_iff_eq, beq_eq_false_iff_ne, bne_iff_ne, bne_eq_false_iff_eq, ne_eq, Bool.not_eq_true', Bool.not_eq_false', Decidable.not_not] at hc9
                                  refine J.region ?_
                                  refine R.move (GOk.no rfl) rfl rfl ?_
                                  refine R.add (GOk.no rfl) rfl rfl rfl ⟨by omega, by omega⟩ ?_
                                  refine R.assign (GOk.no rfl) rfl rfl ?_
                                  refine Run.nil ⟨by kernel_rfl, ?_⟩
                                  first | exact toQ.mk (Gh.weak [(0, vS s), (3, vI ((i + 1 : Nat) : Int))] [] ⟨rfl, rfl, trivial⟩ trivial) ⟨i + 1, ⟨by rw [← utf8F_some (k := 1) (by omega) (by simp only [stepU, stepV]; simp [*])]; exact hI, rfl, rfl⟩, by omega⟩ | exact toQ.mk (Gh.weak [(0, vS s), (3, vI ((i + 2 : Nat) : Int))] [] ⟨rfl, rfl, trivial⟩ trivial) ⟨i + 2, ⟨by rw [← utf8F_some (k := 2) (by omega) (by simp only [stepU, stepV]; simp [*])]; exact hI, rfl, rfl⟩, by omega⟩ | exact toQ.mk (Gh.weak [(0, vS s), (3, vI ((i + 3 : Nat) : Int))] [] ⟨rfl, rfl, trivial⟩ trivial) ⟨i + 3, ⟨by rw [← utf8F_some (k := 3) (by omega) (by simp only [stepU, stepV]; simp [*])]; exact hI, rfl, rfl⟩, by omega⟩ | exact toQ.mk (Gh.weak [(0, vS s), (3, vI ((i + 4 : Nat) : Int))] [] ⟨rfl, rfl, trivial⟩ trivial) ⟨i + 4, ⟨by rw [← utf8F_some (k := 4) (by omega) (by simp only [stepU, stepV]; simp [*])]; exact hI, rfl, rfl⟩, by omega⟩
                                · try simp only [decide_eq_true_eq, decide_eq_false_iff_not, beq_iff_eq, beq_eq_false_iff_ne, bne_iff_ne, bne_eq_false_iff_eq, ne_eq, Bool.not_eq_true', Bool.not_eq_false', Decidable.not_not] at hc9
                                  refine J.seq ?_
                                  refine J.region ?_
                                  refine R.assign (GOk.no rfl) rfl rfl ?_
                                  refine Run.nil ⟨by kernel_rfl, ?_⟩
                                  refine J.ret ?_
                                  first | exact FinQ.of ⟨ret_eq rfl (svB (by rw [← hI, utf8F_end (by omega)])), trivial⟩ trivial | exact FinQ.of ⟨ret_eq rfl (svB (by rw [← hI, utf8F_none (by omega) (by simp only [stepU, stepV]; simp [*])])), trivial⟩ trivial
                              ·  -- r22
                                refine J.region ?_
                                refine R.move (GOk.no rfl) rfl rfl ?_
                                refine R.eql (GOk.no rfl) rfl rfl rfl ?_
                                refine R.move (GOk.no rfl) rfl rfl ?_
                                refine R.case 134 rfl (fun hg10 => ?_) (fun hg10 => ?_)
                                · try simp only [decide_eq_true_eq, decide_eq_false_iff_not, beq_iff_eq, beq_eq_false_iff_ne, bne_iff_ne, bne_eq_false_iff_eq, ne_eq, Bool.not_eq_true', Bool.not_eq_false', Decidable.not_not] at hg10
                                  refine R.move (GOk.of rfl rfl rfl _ rfl) rfl rfl ?_
                                  refine R.move (GOk.of rfl rfl rfl _ rfl) rfl rfl ?_
                                  refine R.add (GOk.of rfl rfl rfl _ rfl) rfl rfl rfl ⟨by omega, by omega⟩ ?_
                                  refine R.call [((.tmp 135), _), ((.tmp 137), _), ((.const _), _), ((.const _), _)] (con_42 s (i + 1) 128 143) rfl (GOk.of rfl rfl rfl _ rfl) rfl ⟨rfl, rfl, rfl, rfl, trivial⟩ ?_
                                  first | refine R.pickT (GOk.no rfl) rfl rfl rfl ?_ | refine R.pickF (GOk.no rfl) rfl rfl rfl ?_
                                  refine R.move (GOk.no rfl) rfl rfl ?_
                                  refine R.case 140 rfl (fun hg11 => ?_) (fun hg11 => ?_)
                                  · try simp only [decide_eq_true_eq, decide_eq_false_iff_not, beq_iff_eq, beq_eq_false_iff_ne, bne_iff_ne, bne_eq_false_iff_eq, ne_eq, Bool.not_eq_true', Bool.not_eq_false', Decidable.not_not] at hg11
                                    refine R.move (GOk.of rfl rfl rfl _ rfl) rfl rfl ?_
                                    first | refine R.pickT (GOk.no rfl) rfl rfl rfl ?_ | refine R.pickF (GOk.no rfl) rfl rfl rfl ?_
                                    refine R.move (GOk.no rfl) rfl rfl ?_
                                    refine R.case 143 rfl (fun hg12 => ?_) (fun hg12 => ?_)
                                    · try simp only [decide_eq_true_eq, decide_eq_false_iff_not, beq_iff_eq, beq_eq_false_iff_ne, bne_iff_ne, bne_eq_false_iff_eq, ne_eq, Bool.not_eq_true', Bool.not_eq_false', Decidable.not_not] at hg12
                                      refine R.move (GOk.of rfl rfl rfl _ rfl) rfl rfl ?_
                                      first | refine R.pickT (GOk.no rfl) rfl rfl rfl ?_ | refine R.pickF (GOk.no rfl) rfl rfl rfl ?_
                                      refine R.assign (GOk.no rfl) rfl rfl ?_
                                      refine Run.nil ⟨by kernel_rfl, ?_⟩
                                      exact toQ.mk (Gh.weak [(0, vS s), (3, vI ((i : Nat) : Int)), (4, vI ((byteAt s i : Nat) : Int)), (5, vB (inR s (i + 1) 128 191)), (6, vB (inR s (i + 2) 128 191)), (7, vB (inR s (i + 3) 128 191)), (131, vB (decide ((byteAt s i : Int) = 244) && inR s (i + 1) 128 143 && (inR s (i + 2) 128 191) && (inR s (i + 3) 128 191)))] [] ⟨rfl, rfl, rfl, rfl, rfl, rfl, fs_eq rfl (vB_eq (by simp [*])), trivial⟩ trivial) ⟨rfl, rfl⟩
                                    · try simp only [decide_eq_true_eq, decide_eq_false_iff_not, beq_iff_eq, beq_eq_false_iff_ne, bne_iff_ne, bne_eq_false_iff_eq, ne_eq, Bool.not_eq_true', Bool.not_eq_false', Decidable.not_not] at hg12
                                      refine R.pass (GOk.of rfl rfl rfl _ rfl) rfl ?_
                                      first | refine R.pickT (GOk.no rfl) rfl rfl rfl ?_ | refine R.pickF (GOk.no rfl) rfl rfl rfl ?_
                                      refine R.assign (GOk.no rfl) rfl rfl ?_
                                      refine Run.nil ⟨by kernel_rfl, ?_⟩
                                      exact toQ.mk (Gh.weak [(0, vS s), (3, vI ((i : Nat) : Int)), (4, vI ((byteAt s i : Nat) : Int)), (5, vB (inR s (i + 1) 128 191)), (6, vB (inR s (i + 2) 128 191)), (7, vB (inR s (i + 3) 128 191)), (131, vB (decide ((byteAt s i : Int) = 244) && inR s (i + 1) 128 143 && (inR s (i + 2) 128 191) && (inR s (i + 3) 128 191)))] [] ⟨rfl, rfl, rfl, rfl, rfl, rfl, fs_eq rfl (vB_eq (by simp [*])), trivial⟩ trivial) ⟨rfl, rfl⟩
                                  · try simp only [decide_eq_true_eq, decide_eq_false_iff_not, beq_iff_eq, beq_eq_false_iff_ne, bne_iff_ne, bne_eq_false_iff_eq, ne_eq, Bool.not_eq_true', Bool.not_eq_false', Decidable.not_not] at hg11
                                    refine R.pass (GOk.of rfl rfl rfl _ rfl) rfl ?_
                                    first | refine R.pickT (GOk.no rfl) rfl rfl rfl ?_ | refine R.pickF (GOk.no rfl) rfl rfl rfl ?_
                                    refine R.move (GOk.no rfl) rfl rfl ?_
                                    refine R.pass (GOk.of rfl rfl rfl _ rfl) rfl ?_
                                    first | refine R.pickT (GOk.no rfl) rfl rfl rfl ?_ | refine R.pickF (GOk.no rfl) rfl rfl rfl ?_
                                    refine R.assign (GOk.no rfl) rfl rfl ?_
                                    refine Run.nil ⟨by kernel_rfl, ?_⟩
                                    exact toQ.mk (Gh.weak [(0, vS s), (3, vI ((i : Nat) : Int)), (4, vI ((byteAt s i : Nat) : Int)), (5, vB (inR s (i + 1) 128 191)), (6, vB (inR s (i + 2) 128 191)), (7, vB (inR s (i + 3) 128 191)), (131, vB (decide ((byteAt s i : Int) = 244) && inR s (i + 1) 128 143 && (inR s (i + 2) 128 191) && (inR s (i + 3) 128 191)))] [] ⟨rfl, rfl, rfl, rfl, rfl, rfl, fs_eq rfl (vB_eq (by simp [*])), trivial⟩ trivial) ⟨rfl, rfl⟩
                                · try simp only [decide_eq_true_eq, decide_eq_false_iff_not, beq_iff_eq, beq_eq_false_iff_ne, bne_iff_ne, bne_eq_false_iff_eq, ne_eq, Bool.not_eq_true', Bool.not_eq_false', Decidable.not_not] at hg10
                                  refine R.pass (GOk.of rfl rfl rfl _ rfl) rfl ?_
                                  refine R.pass (GOk.of rfl rfl rfl _ rfl) rfl ?_
                                  refine R.pass (GOk.of rfl rfl rfl _ rfl) rfl ?_
                                  refine R.pass (GOk.of rfl rfl rfl _ rfl) rfl ?_
                                  first | refine R.pickT (GOk.no rfl) rfl rfl rfl ?_ | refine R.pickF (GOk.no rfl) rfl rfl rfl ?_
                                  refine R.move (GOk.no rfl) rfl rfl ?_
                                  refine R.pass (GOk.of rfl rfl rfl _ rfl) rfl ?_
                                  first | refine R.pickT (GOk.no rfl) rfl rfl rfl ?_ | refine R.pickF (GOk.no rfl) rfl rfl rfl ?_
                                  refine R.move (GOk.no rfl) rfl rfl ?_
                                  refine R.pass (GOk.of rfl rfl rfl _ rfl) rfl ?_
                                  first | refine R.pickT (GOk.no rfl) rfl rfl rfl ?_ | refine R.pickF (GOk.no rfl) rfl rfl rfl ?_
                                  refine R.assign (GOk.no rfl) rfl rfl ?_
                                  refine Run.nil ⟨by kernel_rfl, ?_⟩
                                  exact toQ.mk (Gh.weak [(0, vS s), (3, vI ((i : Nat) : Int)), (4, vI ((byteAt s i : Nat) : Int)), (5, vB (inR s (i + 1) 128 191)), (6, vB (inR s (i + 2) 128 191)), (7, vB (inR s (i + 3) 128 191)), (131, vB (decide ((byteAt s i : Int) = 244) && inR s (i + 1) 128 143 && (inR s (i + 2) 128 191) && (inR s (i + 3) 128 191)))] [] ⟨rfl, rfl, rfl, rfl, rfl, rfl, fs_eq rfl (vB_eq (by simp [*])), trivial⟩ trivial) ⟨rfl, rfl⟩
                          ·  -- r20
                            refine J.region ?_
                            refine R.move (GOk.no rfl) rfl rfl ?_
                            refine R.geq (GOk.no rfl) rfl rfl rfl ?_
                            refine R.move (GOk.no rfl) rfl rfl ?_
                            refine R.case 116 rfl (fun hg13 => ?_) (fun hg13 => ?_)
                            · try simp only [decide_eq_true_eq, decide_eq_false_iff_not, beq_iff_eq, beq_eq_false_iff_ne, bne_iff_ne, bne_eq_false_iff_eq, ne_eq, Bool.not_eq_true', Bool.not_eq_false', Decidable.not_not] at hg13
                              refine R.move (GOk.of rfl rfl rfl _ rfl) rfl rfl ?_
                              refine R.leq (GOk.of rfl rfl rfl _ rfl) rfl rfl rfl ?_
                              first | refine R.pickT (GOk.no rfl) rfl rfl rfl ?_ | refine R.pickF (GOk.no rfl) rfl rfl rfl ?_
                              refine R.move (GOk.no rfl) rfl rfl ?_
                              refine R.case 120 rfl (fun hg14 => ?_) (fun hg14 => ?_)
                              · try simp only [decide_eq_true_eq, decide_eq_false_iff_not, beq_iff_eq, beq_eq_false_iff_ne, bne_iff_ne, bne_eq_false_iff_eq, ne_eq, Bool.not_eq_true', Bool.not_eq_false', Decidable.not_not] at hg14
                                refine R.move (GOk.of rfl rfl rfl _ rfl) rfl rfl ?_
                                first | refine R.pickT (GOk.no rfl) rfl rfl rfl ?_ | refine R.pickF (GOk.no rfl) rfl rfl rfl ?_
                                refine R.move (GOk.no rfl) rfl rfl ?_
                                refine R.case 123 rfl (fun hg15 => ?_) (fun hg15 => ?_)
                                · try simp only [decide_eq_true_eq, decide_eq_false_iff_not, beq_iff_eq, beq_eq_false_iff_ne, bne_iff_ne, bne_eq_false_iff_eq, ne_eq, Bool.not_eq_true', Bool.not_eq_false', Decidable.not_not] at hg15
                                  refine R.move (GOk.of rfl rfl rfl _ rfl) rfl rfl ?_
                                  first | refine R.pickT (GOk.no rfl) rfl rfl rfl ?_ | refine R.pickF (GOk.no rfl) rfl rfl rfl ?_
                                  refine R.move (GOk.no rfl) rfl rfl ?_
                                  refine R.case 126 rfl (fun hg16 => ?_) (fun hg16 => ?_)
                                  · try simp only [decide_eq_true_eq, decide_eq_false_iff_not, beq_iff_eq, beq_eq_false_iff_ne, bne_iff_ne, bne_eq_false_iff_eq, ne_eq, Bool.not_eq_true', Bool.not_eq_false', Decidable.not_not] at hg16
                                    refine R.move (GOk.of rfl rfl rfl _ rfl) rfl rfl ?_
                                    first | refine R.pickT (GOk.no rfl) rfl rfl rfl ?_ | refine R.pickF (GOk.no rfl) rfl rfl rfl ?_
                                    refine R.assign (GOk.no rfl) rfl rfl ?_
                                    refine Run.nil ⟨by kernel_rfl, ?_⟩
                                    exact toQ.mk (Gh.weak [(0, vS s), (3, vI ((i : Nat) : Int)), (4, vI ((byteAt s i : Nat) : Int)), (5, vB (inR s (i + 1) 128 191)), (6, vB (inR s (i + 2) 128 191)), (7, vB (inR s (i + 3) 128 191)), (113, vB (decide (241 ≤ (byteAt s i : Int)) && decide ((byteAt s i : Int) ≤ 243) && (inR s (i + 1) 128 191) && (inR s (i + 2) 128 191) && (inR s (i + 3) 128 191)))] [] ⟨rfl, rfl, rfl, rfl, rfl, rfl, fs_eq rfl (vB_eq (by simp [*])), trivial⟩ trivial) ⟨rfl, rfl⟩
                                  · try simp only [decide_eq_true_eq, decide_eq_false_iff_not, beq_iff_eq, beq_eq_false_iff_ne, bne_iff_ne, bne_eq_false_iff_eq, ne_eq, Bool.not_eq_true', Bool.not_eq_false', Decidable.not_not] at hg16
                                    refine R.pass (GOk.of rfl rfl rfl _ rfl) rfl ?_
                                    first | refine R.pickT (GOk.no rfl) rfl rfl rfl ?_ | refine R.pickF (GOk.no rfl) rfl rfl rfl ?_
                                    refine R.assign (GOk.no rfl) rfl rfl ?_
                                    refine Run.nil ⟨by kernel_rfl, ?_⟩
                                    exact toQ.mk (Gh.weak [(0, vS s), (3, vI ((i : Nat) : Int)), (4, vI ((byteAt s i : Nat) : Int)), (5, vB (inR s (i + 1) 128 191)), (6, vB (inR s (i + 2) 128 191)), (7, vB (inR s (i + 3) 128 191)), (113, vB (decide (241 ≤ (byteAt s i : Int)) && decide ((byteAt s i : Int) ≤ 243) && (inR s (i + 1) 128 191) && (inR s (i + 2) 128 191) && (inR s (i + 3) 128 191)))] [] ⟨rfl, rfl, rfl, rfl, rfl, rfl, fs_eq rfl (vB_eq (by simp [*])), trivial⟩ trivial) ⟨rfl, rfl⟩
                                · try simp only [decide_eq_true_eq, decide_eq_false_iff_not, beq_iff_eq, beq_eq_false_iff_ne, bne_iff_ne, bne_eq_false_iff_eq, ne_eq, Bool.not_eq_true', Bool.not_eq_false', Decidable.not_not] at hg15
                                  refine R.pass (GOk.of rfl rfl rfl _ rfl) rfl ?_
                                  first | refine R.pickT (GOk.no rfl) rfl rfl rfl ?_ | refine R.pickF (GOk.no rfl) rfl rfl rfl ?_
                                  refine R.move (GOk.no rfl) rfl rfl ?_
                                  refine R.pass (GOk.of rfl rfl rfl _ rfl) rfl ?_
                                  first | refine R.pickT (GOk.no rfl) rfl rfl rfl ?_ | refine R.pickF (GOk.no rfl) rfl rfl rfl ?_
                                  refine R.assign (GOk.no rfl) rfl rfl ?_
                                  refine Run.nil ⟨by kernel_rfl, ?_⟩
                                  exact toQ.mk (Gh.weak [(0, vS s), (3, vI ((i : Nat) : Int)), (4, vI ((byteAt s i : Nat) : Int)), (5, vB (inR s (i + 1) 128 191)), (6, vB (inR s (i + 2) 128 191)), (7, vB (inR s (i + 3) 128 191)), (113, vB (decide (241 ≤ (byteAt s i : Int)) && decide ((byteAt s i : Int) ≤ 243) && (inR s (i + 1) 128 191) && (inR s (i + 2) 128 191) && (inR s (i + 3) 128 191)))] [] ⟨rfl, rfl, rfl, rfl, rfl, rfl, fs_eq rfl (vB_eq (by simp [*])), trivial⟩ trivial) ⟨rfl, rfl⟩
                              · try simp only [decide_eq_true_eq, decide_eq_false_iff_not, beq_iff_eq, beq_eq_false_iff_ne, bne_iff_ne, bne_eq_false_iff_eq, ne_eq, Bool.not_eq_true', Bool.not_eq_false', Decidable.not_not] at hg14
                                refine R.pass (GOk.of rfl rfl rfl _ rfl) rfl ?_
                                first | refine R.pickT (GOk.no rfl) rfl rfl rfl ?_ | refine R.pickF (GOk.no rfl) rfl rfl rfl ?_
                                refine R.move (GOk.no rfl) rfl rfl ?_
                                refine R.pass (GOk.of rfl rfl rfl _ rfl) rfl ?_
                                first | refine R.pickT (GOk.no rfl) rfl rfl rfl ?_ | refine R.pickF (GOk.no rfl) rfl rfl rfl ?_
                                refine R.move (GOk.no rfl) rfl rfl ?_
                                refine R.pass (GOk.of rfl rfl rfl _ rfl) rfl ?_
                                first | refine R.pickT (GOk.no rfl) rfl rfl rfl ?_ | refine R.pickF (GOk.no rfl) rfl rfl rfl ?_
                                refine R.assign (GOk.no rfl) rfl rfl ?_
                                refine Run.nil ⟨by kernel_rfl, ?_⟩
                                exact toQ.mk (Gh.weak [(0, vS s), (3, vI ((i : Nat) : Int)), (4, vI ((byteAt s i : Nat) : Int)), (5, vB (inR s (i + 1) 128 191)), (6, vB (inR s (i + 2) 128 191)), (7, vB (inR s (i + 3) 128 191)), (113, vB (decide (241 ≤ (byteAt s i : Int)) && decide ((byteAt s i : Int) ≤ 243) && (inR s (i + 1) 128 191) && (inR s (i + 2) 128 191) && (inR s (i + 3) 128 191)))] [] ⟨rfl, rfl, rfl, rfl, rfl, rfl, fs_eq rfl (vB_eq (by simp [*])), trivial⟩ trivial) ⟨rfl, rfl⟩
                            · try simp only [decide_eq_true_eq, decide_eq_false_iff_not, beq_iff_eq, beq_eq_false_iff_ne, bne_iff_ne, bne_eq_false_iff_eq, ne_eq, Bool.not_eq_true', Bool.not_eq_false', Decidable.not_not] at hg13
                              refine R.pass (GOk.of rfl rfl rfl _ rfl) rfl ?_
                              refine R.pass (GOk.of rfl rfl rfl _ rfl) rfl ?_
                              first | refine R.pickT (GOk.no rfl) rfl rfl rfl ?_ | refine R.pickF (GOk.no rfl) rfl rfl rfl ?_
                              refine R.move (GOk.no rfl) rfl rfl ?_
                              refine R.pass (GOk.of rfl rfl rfl _ rfl) rfl ?_
                              first | refine R.pickT (GOk.no rfl) rfl rfl rfl ?_ | refine R.pickF (GOk.no rfl) rfl rfl rfl ?_
                              refine R.move (GOk.no rfl) rfl rfl ?_
                              refine R.pass (GOk.of rfl rfl rfl _ rfl) rfl ?_
                              first | refine R.pickT (GOk.no rfl) rfl rfl rfl ?_ | refine R.pickF (GOk.no rfl) rfl rfl rfl ?_
                              refine R.move (GOk.no rfl) rfl rfl ?_
                              refine R.pass (GOk.of rfl rfl rfl _ rfl) rfl ?_
                              first | refine R.pickT (GOk.no rfl) rfl rfl rfl ?_ | refine R.pickF (GOk.no rfl) rfl rfl rfl ?_
                              refine R.assign (GOk.no rfl) rfl rfl ?_
                              refine Run.nil ⟨by kernel_rfl, ?_⟩
                              exact toQ.mk (Gh.weak [(0, vS s), (3, vI ((i : Nat) : Int)), (4, vI ((byteAt s i : Nat) : Int)), (5, vB (inR s (i + 1) 128 191)), (6, vB (inR s (i + 2) 128 191)), (7, vB (inR s (i + 3) 128 191)), (113, vB (decide (241 ≤ (byteAt s i : Int)) && decide ((byteAt s i : Int) ≤ 243) && (inR s (i + 1) 128 191) && (inR s (i + 2) 128 191) && (inR s (i + 3) 128 191)))] [] ⟨rfl, rfl, rfl, rfl, rfl, rfl, fs_eq rfl (vB_eq (by simp [*])), trivial⟩ trivial) ⟨rfl, rfl⟩
                      ·  -- r18
                        refine J.region ?_
                        refine R.move (GOk.no rfl) rfl rfl ?_
                        refine R.eql (GOk.no rfl) rfl rfl rfl ?_
                        refine R.move (GOk.no rfl) rfl rfl ?_
                        refine R.case 99 rfl (fun hg17 => ?_) (fun hg17 => ?_)
                        · try simp only [decide_eq_true_eq, decide_eq_false_iff_not, beq_iff_eq, beq_eq_false_iff_ne, bne_iff_ne, bne_eq_false_iff_eq, ne_eq, Bool.not_eq_true', Bool.not_eq_false', Decidable.not_not] at hg17
                          refine R.move (GOk.of rfl rfl rfl _ rfl) rfl rfl ?_
                          refine R.move (GOk.of rfl rfl rfl _ rfl) rfl rfl ?_
                          refine R.add (GOk.of rfl rfl rfl _ rfl) rfl rfl rfl ⟨by omega, by omega⟩ ?_
                          refine R.call [((.tmp 100), _), ((.tmp 102), _), ((.const _), _), ((.const _), _)] (con_42 s (i + 1) 144 191) rfl (GOk.of rfl rfl rfl _ rfl) rfl ⟨rfl, rfl, rfl, rfl, trivial⟩ ?_
                          first | refine R.pickT (GOk.no rfl) rfl rfl rfl ?_ | refine R.pickF (GOk.no rfl) rfl rfl rfl ?_
                          refine R.move (GOk.no rfl) rfl rfl ?_
                          refine R.case 105 rfl (fun hg18 => ?_) (fun hg18 => ?_)
                          · try simp only [decide_eq_true_eq, decide_eq_false_iff_not, beq_iff_eq, beq_eq_false_iff_ne, bne_iff_ne, bne_eq_false_iff_eq, ne_eq, Bool.not_eq_true', Bool.not_eq_false', Decidable.not_not] at hg18
                            refine R.move (GOk.of rfl rfl rfl _ rfl) rfl rfl ?_
                            first | refine R.pickT (GOk.no rfl) rfl rfl rfl ?_ | refine R.pickF (GOk.no rfl) rfl rfl rfl ?_
                            refine R.move (GOk.no rfl) rfl rfl ?_
                            refine R.case 108 rfl (fun hg19 => ?_) (fun hg19 => ?_)
                            · try simp only [decide_eq_true_eq, decide_eq_false_iff_not, beq_iff_eq, beq_eq_false_iff_ne, bne_iff_ne, bne_eq_false_iff_eq, ne_eq, Bool.not_eq_true', Bool.not_eq_false', Decidable.not_not] at hg19
                              refine R.move (GOk.of rfl rfl rfl _ rfl) rfl rfl ?_
                              first | refine R.pickT (GOk.no rfl) rfl rfl rfl ?_ | refine R.pickF (GOk.no rfl) rfl rfl rfl ?_
                              refine R.assign (GOk.no rfl) rfl rfl ?_
                              refine Run.nil ⟨by kernel_rfl, ?_⟩
                              exact toQ.mk (Gh.weak [(0, vS s), (3, vI ((i : Nat) : Int)), (4, vI ((byteAt s i : Nat) : Int)), (5, vB (inR s (i + 1) 128 191)), (6, vB (inR s (i + 2) 128 191)), (7, vB (inR s (i + 3) 128 191)), (96, vB (decide ((byteAt s i : Int) = 240) && inR s (i + 1) 144 191 && (inR s (i + 2) 128 191) && (inR s (i + 3) 128 191)))] [] ⟨rfl, rfl, rfl, rfl, rfl, rfl, fs_eq rfl (vB_eq (by simp [*])), trivial⟩ trivial) ⟨rfl, rfl⟩
                            · try simp only [decide_eq_true_eq, decide_eq_false_iff_not, beq_iff_eq, beq_eq_false_iff_ne, bne_iff_ne, bne_eq_false_iff_eq, ne_eq, Bool.not_eq_true', Bool.not_eq_false', Decidable.not_not] at hg19
                              refine R.pass (GOk.of rfl rfl rfl _ rfl) rfl ?_
                              first | refine R.pickT (GOk.no rfl) rfl rfl rfl ?_ | refine R.pickF (GOk.no rfl) rfl rfl rfl ?_
                              refine R.assign (GOk.no rfl) rfl rfl ?_
                              refine Run.nil ⟨by kernel_rfl, ?_⟩
                              exact toQ.mk (Gh.weak [(0, vS s), (3, vI ((i : Nat) : Int)), (4, vI ((byteAt s i : Nat) : Int)), (5, vB (inR s (i + 1) 128 191)), (6, vB (inR s (i + 2) 128 191)), (7, vB (inR s (i + 3) 128 191)), (96, vB (decide ((byteAt s i : Int) = 240) && inR s (i + 1) 144 191 && (inR s (i + 2) 128 191) && (inR s (i + 3) 128 191)))] [] ⟨rfl, rfl, rfl, rfl, rfl, rfl, fs_eq rfl (vB_eq (by simp [*])), trivial⟩ trivial) ⟨rfl, rfl⟩
                          · try simp only [decide_eq_true_eq, decide_eq_false_iff_not, beq_iff_eq, beq_eq_false_iff_ne, bne_iff_ne, bne_eq_false_iff_eq, ne_eq, Bool.not_eq_true', Bool.not_eq_false', Decidable.not_not] at hg18
                            refine R.pass (GOk.of rfl rfl rfl _ rfl) rfl ?_
                            first | refine R.pickT (GOk.no rfl) rfl rfl rfl ?_ | refine R.pickF (GOk.no rfl) rfl rfl rfl ?_
                            refine R.move (GOk.no rfl) rfl rfl ?_
                            refine R.pass (GOk.of rfl rfl rfl _ rfl) rfl ?_
                            first | refine R.pickT (GOk.no rfl) rfl rfl rfl ?_ | refine R.pickF (GOk.no rfl) rfl rfl rfl ?_
                            refine R.assign (GOk.no rfl) rfl rfl ?_
                            refine Run.nil ⟨by kernel_rfl, ?_⟩
                            exact toQ.mk (Gh.weak [(0, vS s), (3, vI ((i : Nat) : Int)), (4, vI ((byteAt s i : Nat) : Int)), (5, vB (inR s (i + 1) 128 191)), (6, vB (inR s (i + 2) 128 191)), (7, vB (inR s (i + 3) 128 191)), (96, vB (decide ((byteAt s i : Int) = 240) && inR s (i + 1) 144 191 && (inR s (i + 2) 128 191) && (inR s (i + 3) 128 191)))] [] ⟨rfl, rfl, rfl, rfl, rfl, rfl, fs_eq rfl (vB_eq (by simp [*])), trivial⟩ trivial) ⟨rfl, rfl⟩
                        · try simp only [decide_eq_true_eq, decide_eq_false_iff_not, beq_iff_eq, beq_eq_false_iff_ne, bne_iff_ne, bne_eq_false_iff_eq, ne_eq, Bool.not_eq_true', Bool.not_eq_false', Decidable.not_not] at hg17
                          refine R.pass (GOk.of rfl rfl rfl _ rfl) rfl ?_
                          refine R.pass (GOk.of rfl rfl rfl _ rfl) rfl ?_
                          refine R.pass (GOk.of rfl rfl rfl _ rfl) rfl ?_
                          refine R.pass (GOk.of rfl rfl rfl _ rfl) rfl ?_
                          first | refine R.pickT (GOk.no rfl) rfl rfl rfl ?_ | refine R.pickF (GOk.no rfl) rfl rfl rfl ?_
                          refine R.move (GOk.no rfl) rfl rfl ?_
                          refine R.pass (GOk.of rfl rfl rfl _ rfl) rfl ?_
                          first | refine R.pickT (GOk.no rfl) rfl rfl rfl ?_ | refine R.pickF (GOk.no rfl) rfl rfl rfl ?_
                          refine R.move (GOk.no rfl) rfl rfl ?_
                          refine R.pass (GOk.of rfl rfl rfl _ rfl) rfl ?_
                          first | refine R.pickT (GOk.no rfl) rfl rfl rfl ?_ | refine R.pickF (GOk.no rfl) rfl rfl rfl ?_
                          refine R.assign (GOk.no rfl) rfl rfl ?_
                          refine Run.nil ⟨by kernel_rfl, ?_⟩
                          exact toQ.mk (Gh.weak [(0, vS s), (3, vI ((i : Nat) : Int)), (4, vI ((byteAt s i : Nat) : Int)), (5, vB (inR s (i + 1) 128 191)), (6, vB (inR s (i + 2) 128 191)), (7, vB (inR s (i + 3) 128 191)), (96, vB (decide ((byteAt s i : Int) = 240) && inR s (i + 1) 144 191 && (inR s (i + 2) 128 191) && (inR s (i + 3) 128 191)))] [] ⟨rfl, rfl, rfl, rfl, rfl, rfl, fs_eq rfl (vB_eq (by simp [*])), trivial⟩ trivial) ⟨rfl, rfl⟩
                  ·  -- r16
                    refine J.region ?_
                    refine R.move (GOk.no rfl) rfl rfl ?_
                    refine R.eql (GOk.no rfl) rfl rfl rfl ?_
                    refine R.move (GOk.no rfl) rfl rfl ?_
                    refine R.case 85 rfl (fun hg20 => ?_) (fun hg20 => ?_)
                    · try simp only [decide_eq_true_eq, decide_eq_false_iff_not, beq_iff_eq, beq_eq_false_iff_ne, bne_iff_ne, bne_eq_false_iff_eq, ne_eq, Bool.not_eq_true', Bool.not_eq_false', Decidable.not_not] at hg20
                      refine R.move (GOk.of rfl rfl rfl _ rfl) rfl rfl ?_
                      refine R.move (GOk.of rfl rfl rfl _ rfl) rfl rfl ?_
                      refine R.add (GOk.of rfl rfl rfl _ rfl) rfl rfl rfl ⟨by omega, by omega⟩ ?_
                      refine R.call [((.tmp 86), _), ((.tmp 88), _), ((.const _), _), ((.const _), _)] (con_42 s (i + 1) 128 159) rfl (GOk.of rfl rfl rfl _ rfl) rfl ⟨rfl, rfl, rfl, rfl, trivial⟩ ?_
                      first | refine R.pickT (GOk.no rfl) rfl rfl rfl ?_ | refine R.pickF (GOk.no rfl) rfl rfl rfl ?_
                      refine R.move (GOk.no rfl) rfl rfl ?_
                      refine R.case 91 rfl (fun hg21 => ?_) (fun hg21 => ?_)
                      · try simp only [decide_eq_true_eq, decide_eq_false_iff_not, beq_iff_eq, beq_eq_false_iff_ne, bne_iff_ne, bne_eq_false_iff_eq, ne_eq, Bool.not_eq_true', Bool.not_eq_false', Decidable.not_not] at hg21
                        refine R.move (GOk.of rfl rfl rfl _ rfl) rfl rfl ?_
                        first | refine R.pickT (GOk.no rfl) rfl rfl rfl ?_ | refine R.pickF (GOk.no rfl) rfl rfl rfl ?_
                        refine R.assign (GOk.no rfl) rfl rfl ?_
                        refine Run.nil ⟨by kernel_rfl, ?_⟩
                        exact toQ.mk (Gh.weak [(0, vS s), (3, vI ((i : Nat) : Int)), (4, vI ((byteAt s i : Nat) : Int)), (5, vB (inR s (i + 1) 128 191)), (6, vB (inR s (i + 2) 128 191)), (7, vB (inR s (i + 3) 128 191)), (82, vB (decide ((byteAt s i : Int) = 237) && inR s (i + 1) 128 159 && (inR s (i + 2) 128 191)))] [] ⟨rfl, rfl, rfl, rfl, rfl, rfl, fs_eq rfl (vB_eq (by simp [*])), trivial⟩ trivial) ⟨rfl, rfl⟩
                      · try simp only [decide_eq_true_eq, decide_eq_false_iff_not, beq_iff_eq, beq_eq_false_iff_ne, bne_iff_ne, bne_eq_false_iff_eq, ne_eq, Bool.not_eq_true', Bool.not_eq_false', Decidable.not_not] at hg21
                        refine R.pass (GOk.of rfl rfl rfl _ rfl) rfl ?_
                        first | refine R.pickT (GOk.no rfl) rfl rfl rfl ?_ | refine R.pickF (GOk.no rfl) rfl rfl rfl ?_
                        refine R.assign (GOk.no rfl) rfl rfl ?_
                        refine Run.nil ⟨by kernel_rfl, ?_⟩
                        exact toQ.mk (Gh.weak [(0, vS s), (3, vI ((i : Nat) : Int)), (4, vI ((byteAt s i : Nat) : Int)), (5, vB (inR s (i + 1) 128 191)), (6, vB (inR s (i + 2) 128 191)), (7, vB (inR s (i + 3) 128 191)), (82, vB (decide ((byteAt s i : Int) = 237) && inR s (i + 1) 128 159 && (inR s (i + 2) 128 191)))] [] ⟨rfl, rfl, rfl, rfl, rfl, rfl, fs_eq rfl (vB_eq (by simp [*])), trivial⟩ trivial) ⟨rfl, rfl⟩
                    · try simp only [decide_eq_true_eq, decide_eq_false_iff_not, beq_iff_eq, beq_eq_false_iff_ne, bne_iff_ne, bne_eq_false_iff_eq, ne_eq, Bool.not_eq_true', Bool.not_eq_false', Decidable.not_not] at hg20
                      refine R.pass (GOk.of rfl rfl rfl _ rfl) rfl ?_
                      refine R.pass (GOk.of rfl rfl rfl _ rfl) rfl ?_
                      refine R.pass (GOk.of rfl rfl rfl _ rfl) rfl ?_
                      refine R.pass (GOk.of rfl rfl rfl _ rfl) rfl ?_
                      first | refine R.pickT (GOk.no rfl) rfl rfl rfl ?_ | refine R.pickF (GOk.no rfl) rfl rfl rfl ?_
                      refine R.move (GOk.no rfl) rfl rfl ?_
                      refine R.pass (GOk.of rfl rfl rfl _ rfl) rfl ?_
                      first | refine R.pickT (GOk.no rfl) rfl rfl rfl ?_ | refine R.pickF (GOk.no rfl) rfl rfl rfl ?_
                      refine R.assign (GOk.no rfl) rfl rfl ?_
                      refine Run.nil ⟨by kernel_rfl, ?_⟩
                      exact toQ.mk (Gh.weak [(0, vS s), (3, vI ((i : Nat) : Int)), (4, vI ((byteAt s i : Nat) : Int)), (5, vB (inR s (i + 1) 128 191)), (6, vB (inR s (i + 2) 128 191)), (7, vB (inR s (i + 3) 128 191)), (82, vB (decide ((byteAt s i : Int) = 237) && inR s (i + 1) 128 159 && (inR s (i + 2) 128 191)))] [] ⟨rfl, rfl, rfl, rfl, rfl, rfl, fs_eq rfl (vB_eq (by simp [*])), trivial⟩ trivial) ⟨rfl, rfl⟩
              ·  -- r14
                refine J.region ?_
                refine R.move (GOk.no rfl) rfl rfl ?_
                refine R.geq (GOk.no rfl) rfl rfl rfl ?_
                refine R.move (GOk.no rfl) rfl rfl ?_
                refine R.case 62 rfl (fun hg22 => ?_) (fun hg22 => ?_)
                · try simp only [decide_eq_true_eq, decide_eq_false_iff_not, beq_iff_eq, beq_eq_false_iff_ne, bne_iff_ne, bne_eq_false_iff_eq, ne_eq, Bool.not_eq_true', Bool.not_eq_false', Decidable.not_not] at hg22
                  refine R.move (GOk.of rfl rfl rfl _ rfl) rfl rfl ?_
                  refine R.leq (GOk.of rfl rfl rfl _ rfl) rfl rfl rfl ?_
                  first | refine R.pickT (GOk.no rfl) rfl rfl rfl ?_ | refine R.pickF (GOk.no rfl) rfl rfl rfl ?_
                  refine R.move (GOk.no rfl) rfl rfl ?_
                  refine R.case 66 rfl (fun hg23 => ?_) (fun hg23 => ?_)
                  · try simp only [decide_eq_true_eq, decide_eq_false_iff_not, beq_iff_eq, beq_eq_false_iff_ne, bne_iff_ne, bne_eq_false_iff_eq, ne_eq, Bool.not_eq_true', Bool.not_eq_false', Decidable.not_not] at hg23
                    refine R.pass (GOk.of rfl rfl rfl _ rfl) rfl ?_
                    refine R.pass (GOk.of rfl rfl rfl _ rfl) rfl ?_
                    first | refine R.pickT (GOk.no rfl) rfl rfl rfl ?_ | refine R.pickF (GOk.no rfl) rfl rfl rfl ?_
                    refine R.move (GOk.no rfl) rfl rfl ?_
                    refine R.pass (GOk.of rfl rfl rfl _ rfl) rfl ?_
                    refine R.pass (GOk.of rfl rfl rfl _ rfl) rfl ?_
                    first | refine R.pickT (GOk.no rfl) rfl rfl rfl ?_ | refine R.pickF (GOk.no rfl) rfl rfl rfl ?_
                    refine R.move (GOk.no rfl) rfl rfl ?_
                    refine R.move (GOk.of rfl rfl rfl _ rfl) rfl rfl ?_
                    first | refine R.pickT (GOk.no rfl) rfl rfl rfl ?_ | refine R.pickF (GOk.no rfl) rfl rfl rfl ?_
                    refine R.move (GOk.no rfl) rfl rfl ?_
                    refine R.case 77 rfl (fun hg24 => ?_) (fun hg24 => ?_)
                    · try simp only [decide_eq_true_eq, decide_eq_false_iff_not, beq_iff_eq, beq_eq_false_iff_ne, bne_iff_ne, bne_eq_false_iff_eq, ne_eq, Bool.not_eq_true', Bool.not_eq_false', Decidable.not_not] at hg24
                      refine R.move (GOk.of rfl rfl rfl _ rfl) rfl rfl ?_
                      first | refine R.pickT (GOk.no rfl) rfl rfl rfl ?_ | refine R.pickF (GOk.no rfl) rfl rfl rfl ?_
                      refine R.assign (GOk.no rfl) rfl rfl ?_
                      refine Run.nil ⟨by kernel_rfl, ?_⟩
                      exact toQ.mk (Gh.weak [(0, vS s), (3, vI ((i : Nat) : Int)), (4, vI ((byteAt s i : Nat) : Int)), (5, vB (inR s (i + 1) 128 191)), (6, vB (inR s (i + 2) 128 191)), (7, vB (inR s (i + 3) 128 191)), (59, vB ((decide (225 ≤ (byteAt s i : Int)) && decide ((byteAt s i : Int) ≤ 236) || decide ((byteAt s i : Int) = 238) || decide ((byteAt s i : Int) = 239)) && (inR s (i + 1) 128 191) && (inR s (i + 2) 128 191)))] [] ⟨rfl, rfl, rfl, rfl, rfl, rfl, fs_eq rfl (vB_eq (by simp [*])), trivial⟩ trivial) ⟨rfl, rfl⟩
                    · try simp only [decide_eq_true_eq, decide_eq_false_iff_not, beq_iff_eq, beq_eq_false_iff_ne, bne_iff_ne, bne_eq_false_iff_eq, ne_eq, Bool.not_eq_true', Bool.not_eq_false', Decidable.not_not] at hg24
                      refine R.pass (GOk.of rfl rfl rfl _ rfl) rfl ?_
                      first | refine R.pickT (GOk.no rfl) rfl rfl rfl ?_ | refine R.pickF (GOk.no rfl) rfl rfl rfl ?_
                      refine R.assign (GOk.no rfl) rfl rfl ?_
                      refine Run.nil ⟨by kernel_rfl, ?_⟩
                      exact toQ.mk (Gh.weak [(0, vS s), (3, vI ((i : Nat) : Int)), (4, vI ((byteAt s i : Nat) : Int)), (5, vB (inR s (i + 1) 128 191)), (6, vB (inR s (i + 2) 128 191)), (7, vB (inR s (i + 3) 128 191)), (59, vB ((decide (225 ≤ (byteAt s i : Int)) && decide ((byteAt s i : Int) ≤ 236) || decide ((byteAt s i : Int) = 238) || decide ((byteAt s i : Int) = 239)) && (inR s (i + 1) 128 191) && (inR s (i + 2) 128 191)))] [] ⟨rfl, rfl, rfl, rfl, rfl, rfl, fs_eq rfl (vB_eq (by simp [*])), trivial⟩ trivial) ⟨rfl, rfl⟩
                  · try simp only [decide_eq_true_eq, decide_eq_false_iff_not, beq_iff_eq, beq_eq_false_iff_ne, bne_iff_ne, bne_eq_false_iff_eq, ne_eq, Bool.not_eq_true', Bool.not_eq_false', Decidable.not_not] at hg23
                    refine R.move (GOk.of rfl rfl rfl _ rfl) rfl rfl ?_
                    refine R.eql (GOk.of rfl rfl rfl _ rfl) rfl rfl rfl ?_
                    first | refine R.pickT (GOk.no rfl) rfl rfl rfl ?_ | refine R.pickF (GOk.no rfl) rfl rfl rfl ?_
                    refine R.move (GOk.no rfl) rfl rfl ?_
                    refine R.case 70 rfl (fun hg25 => ?_) (fun hg25 => ?_)
                    · try simp only [decide_eq_true_eq, decide_eq_false_iff_not, beq_iff_eq, beq_eq_false_iff_ne, bne_iff_ne, bne_eq_false_iff_eq, ne_eq, Bool.not_eq_true', Bool.not_eq_false', Decidable.not_not] at hg25
                      refine R.pass (GOk.of rfl rfl rfl _ rfl) rfl ?_
                      refine R.pass (GOk.of rfl rfl rfl _ rfl) rfl ?_
                      first | refine R.pickT (GOk.no rfl) rfl rfl rfl ?_ | refine R.pickF (GOk.no rfl) rfl rfl rfl ?_
                      refine R.move (GOk.no rfl) rfl rfl ?_
                      refine R.move (GOk.of rfl rfl rfl _ rfl) rfl rfl ?_
                      first | refine R.pickT (GOk.no rfl) rfl rfl rfl ?_ | refine R.pickF (GOk.no rfl) rfl rfl rfl ?_
                      refine R.move (GOk.no rfl) rfl rfl ?_
                      refine R.case 77 rfl (fun hg26 => ?_) (fun hg26 => ?_)
                      · try simp only [decide_eq_true_eq, decide_eq_false_iff_not, beq_iff_eq, beq_eq_false_iff_ne, bne_iff_ne, bne_eq_false_iff_eq, ne_eq, Bool.not_eq_true', Bool.not_eq_false', Decidable.not_not] at hg26
                        refine R.move (GOk.of rfl rfl rfl _ rfl) rfl rfl ?_
                        first | refine R.pickT (GOk.no rfl) rfl rfl rfl ?_ | refine R.pickF (GOk.no rfl) rfl rfl rfl ?_
                        refine R.assign (GOk.no rfl) rfl rfl ?_
                        refine Run.nil ⟨by kernel_rfl, ?_⟩
                        exact toQ.mk (Gh.weak [(0, vS s), (3, vI ((i : Nat) : Int)), (4, vI ((byteAt s i : Nat) : Int)), (5, vB (inR s (i + 1) 128 191)), (6, vB (inR s (i + 2) 128 191)), (7, vB (inR s (i + 3) 128 191)), (59, vB ((decide (225 ≤ (byteAt s i : Int)) && decide ((byteAt s i : Int) ≤ 236) || decide ((byteAt s i : Int) = 238) || decide ((byteAt s i : Int) = 239)) && (inR s (i + 1) 128 191) && (inR s (i + 2) 128 191)))] [] ⟨rfl, rfl, rfl, rfl, rfl, rfl, fs_eq rfl (vB_eq (by simp [*])), trivial⟩ trivial) ⟨rfl, rfl⟩
                      · try simp only [decide_eq_true_eq, decide_eq_false_iff_not, beq_iff_eq, beq_eq_false_iff_ne, bne_iff_ne, bne_eq_false_iff_eq, ne_eq, Bool.not_eq_true', Bool.not_eq_false', Decidable.not_not] at hg26
                        refine R.pass (GOk.of rfl rfl rfl _ rfl) rfl ?_
                        first | refine R.pickT (GOk.no rfl) rfl rfl rfl ?_ | refine R.pickF (GOk.no rfl) rfl rfl rfl ?_
                        refine R.assign (GOk.no rfl) rfl rfl ?_
                        refine Run.nil ⟨by kernel_rfl, ?_⟩
                        exact toQ.mk (Gh.weak [(0, vS s), (3, vI ((i : Nat) : Int)), (4, vI ((byteAt s i : Nat) : Int)), (5, vB (inR s (i + 1) 128 191)), (6, vB (inR s (i + 2) 128 191)), (7, vB (inR s (i + 3) 128 191)), (59, vB ((decide (225 ≤ (byteAt s i : Int)) && decide ((byteAt s i : Int) ≤ 236) || decide ((byteAt s i : Int) = 238) || decide ((byteAt s i : Int) = 239)) && (inR s (i + 1) 128 191) && (inR s (i + 2) 128 191)))] [] ⟨rfl, rfl, rfl, rfl, rfl, rfl, fs_eq rfl (vB_eq (by simp [*])), trivial⟩ trivial) ⟨rfl, rfl⟩
                    · try simp only [decide_eq_true_eq, decide_eq_false_iff_not, beq_iff_eq, beq_eq_false_iff_ne, bne_iff_ne, bne_eq_false_iff_eq, ne_eq, Bool.not_eq_true', Bool.not_eq_false', Decidable.not_not] at hg25
                      refine R.move (GOk.of rfl rfl rfl _ rfl) rfl rfl ?_
                      refine R.eql (GOk.of rfl rfl rfl _ rfl) rfl rfl rfl ?_
                      first | refine R.pickT (GOk.no rfl) rfl rfl rfl ?_ | refine R.pickF (GOk.no rfl) rfl rfl rfl ?_
                      refine R.move (GOk.no rfl) rfl rfl ?_
                      refine R.case 74 rfl (fun hg27 => ?_) (fun hg27 => ?_)
                      · try simp only [decide_eq_true_eq, decide_eq_false_iff_not, beq_iff_eq, beq_eq_false_iff_ne, bne_iff_ne, bne_eq_false_iff_eq, ne_eq, Bool.not_eq_true', Bool.not_eq_false', Decidable.not_not] at hg27
                        refine R.move (GOk.of rfl rfl rfl _ rfl) rfl rfl ?_
                        first | refine R.pickT (GOk.no rfl) rfl rfl rfl ?_ | refine R.pickF (GOk.no rfl) rfl rfl rfl ?_
                        refine R.move (GOk.no rfl) rfl rfl ?_
                        refine R.case 77 rfl (fun hg28 => ?_) (fun hg28 => ?_)
                        · try simp only [decide_eq_true_eq, decide_eq_false_iff_not, beq_iff_eq, beq_eq_false_iff_ne, bne_iff_ne, bne_eq_false_iff_eq, ne_eq, Bool.not_eq_true', Bool.not_eq_false', Decidable.not_not] at hg28
                          refine R.move (GOk.of rfl rfl rfl _ rfl) rfl rfl ?_
                          first | refine R.pickT (GOk.no rfl) rfl rfl rfl ?_ | refine R.pickF (GOk.no rfl) rfl rfl rfl ?_
                          refine R.assign (GOk.no rfl) rfl rfl ?_
                          refine Run.nil ⟨by kernel_rfl, ?_⟩
                          exact toQ.mk (Gh.weak [(0, vS s), (3, vI ((i : Nat) : Int)), (4, vI ((byteAt s i : Nat) : Int)), (5, vB (inR s (i + 1) 128 191)), (6, vB (inR s (i + 2) 128 191)), (7, vB (inR s (i + 3) 128 191)), (59, vB ((decide (225 ≤ (byteAt s i : Int)) && decide ((byteAt s i : Int) ≤ 236) || decide ((byteAt s i : Int) = 238) || decide ((byteAt s i : Int) = 239)) && (inR s (i + 1) 128 191) && (inR s (i + 2) 128 191)))] [] ⟨rfl, rfl, rfl, rfl, rfl, rfl, fs_eq rfl (vB_eq (by simp [*])), trivial⟩ trivial) ⟨rfl, rfl⟩
                        · try simp only [decide_eq_true_eq, decide_eq_false_iff_not, beq_iff_eq, beq_eq_false_iff_ne, bne_iff_ne, bne_eq_false_iff_eq, ne_eq, Bool.not_eq_true', Bool.not_eq_false', Decidable.not_not] at hg28
                          refine R.pass (GOk.of rfl rfl rfl _ rfl) rfl ?_
                          first | refine R.pickT (GOk.no rfl) rfl rfl rfl ?_ | refine R.pickF (GOk.no rfl) rfl rfl rfl ?_
                          refine R.assign (GOk.no rfl) rfl rfl ?_
                          refine Run.nil ⟨by kernel_rfl, ?_⟩
                          exact toQ.mk (Gh.weak [(0, vS s), (3, vI ((i : Nat) : Int)), (4, vI ((byteAt s i : Nat) : Int)), (5, vB (inR s (i + 1) 128 191)), (6, vB (inR s (i + 2) 128 191)), (7, vB (inR s (i + 3) 128 191)), (59, vB ((decide (225 ≤ (byteAt s i : Int)) && decide ((byteAt s i : Int) ≤ 236) || decide ((byteAt s i : Int) = 238) || decide ((byteAt s i : Int) = 239)) && (inR s (i + 1) 128 191) && (inR s (i + 2) 128 191)))] [] ⟨rfl, rfl, rfl, rfl, rfl, rfl, fs_eq rfl (vB_eq (by simp [*])), trivial⟩ trivial) ⟨rfl, rfl⟩
                      · try simp only [decide_eq_true_eq, decide_eq_false_iff_not, beq_iff_eq, beq_eq_false_iff_ne, bne_iff_ne, bne_eq_false_iff_eq, ne_eq, Bool.not_eq_true', Bool.not_eq_false', Decidable.not_not] at hg27
                        refine R.pass (GOk.of rfl rfl rfl _ rfl) rfl ?_
                        first | refine R.pickT (GOk.no rfl) rfl rfl rfl ?_ | refine R.pickF (GOk.no rfl) rfl rfl rfl ?_
                        refine R.move (GOk.no rfl) rfl rfl ?_
                        refine R.pass (GOk.of rfl rfl rfl _ rfl) rfl ?_
                        first | refine R.pickT (GOk.no rfl) rfl rfl rfl ?_ | refine R.pickF (GOk.no rfl) rfl rfl rfl ?_
                        refine R.assign (GOk.no rfl) rfl rfl ?_
                        refine Run.nil ⟨by kernel_rfl, ?_⟩
                        exact toQ.mk (Gh.weak [(0, vS s), (3, vI ((i : Nat) : Int)), (4, vI ((byteAt s i : Nat) : Int)), (5, vB (inR s (i + 1) 128 191)), (6, vB (inR s (i + 2) 128 191)), (7, vB (inR s (i + 3) 128 191)), (59, vB ((decide (225 ≤ (byteAt s i : Int)) && decide ((byteAt s i : Int) ≤ 236) || decide ((byteAt s i : Int) = 238) || decide ((byteAt s i : Int) = 239)) && (inR s (i + 1) 128 191) && (inR s (i + 2) 128 191)))] [] ⟨rfl, rfl, rfl, rfl, rfl, rfl, fs_eq rfl (vB_eq (by simp [*])), trivial⟩ trivial) ⟨rfl, rfl⟩
                · try simp only [decide_eq_true_eq, decide_eq_false_iff_not, beq_iff_eq, beq_eq_false_iff_ne, bne_iff_ne, bne_eq_false_iff_eq, ne_eq, Bool.not_eq_true', Bool.not_eq_false', Decidable.not_not] at hg22
                  refine R.pass (GOk.of rfl rfl rfl _ rfl) rfl ?_
                  refine R.pass (GOk.of rfl rfl rfl _ rfl) rfl ?_
                  first | refine R.pickT (GOk.no rfl) rfl rfl rfl ?_ | refine R.pickF (GOk.no rfl) rfl rfl rfl ?_
                  refine R.move (GOk.no rfl) rfl rfl ?_
                  refine R.move (GOk.of rfl rfl rfl _ rfl) rfl rfl ?_
                  refine R.eql (GOk.of rfl rfl rfl _ rfl) rfl rfl rfl ?_
                  first | refine R.pickT (GOk.no rfl) rfl rfl rfl ?_ | refine R.pickF (GOk.no rfl) rfl rfl rfl ?_
                  refine R.move (GOk.no rfl) rfl rfl ?_
                  refine R.case 70 rfl (fun hg29 => ?_) (fun hg29 => ?_)
                  · try simp only [decide_eq_true_eq, decide_eq_false_iff_not, beq_iff_eq, beq_eq_false_iff_ne, bne_iff_ne, bne_eq_false_iff_eq, ne_eq, Bool.not_eq_true', Bool.not_eq_false', Decidable.not_not] at hg29
                    refine R.pass (GOk.of rfl rfl rfl _ rfl) rfl ?_
                    refine R.pass (GOk.of rfl rfl rfl _ rfl) rfl ?_
                    first | refine R.pickT (GOk.no rfl) rfl rfl rfl ?_ | refine R.pickF (GOk.no rfl) rfl rfl rfl ?_
                    refine R.move (GOk.no rfl) rfl rfl ?_
                    refine R.move (GOk.of rfl rfl rfl _ rfl) rfl rfl ?_
                    first | refine R.pickT (GOk.no rfl) rfl rfl rfl ?_ | refine R.pickF (GOk.no rfl) rfl rfl rfl ?_
                    refine R.move (GOk.no rfl) rfl rfl ?_
                    refine R.case 77 rfl (fun hg30 => ?_) (fun hg30 => ?_)
                    · try simp only [decide_eq_true_eq, decide_eq_false_iff_not, beq_iff_eq, beq_eq_false_iff_ne, bne_iff_ne, bne_eq_false_iff_eq, ne_eq, Bool.not_eq_true', Bool.not_eq_false', Decidable.not_not] at hg30
                      refine R.move (GOk.of rfl rfl rfl _ rfl) rfl rfl ?_
                      first | refine R.pickT (GOk.no rfl) rfl rfl rfl ?_ | refine R.pickF (GOk.no rfl) rfl rfl rfl ?_
                      refine R.assign (GOk.no rfl) rfl rfl ?_
                      refine Run.nil ⟨by kernel_rfl, ?_⟩
                      exact toQ.mk (Gh.weak [(0, vS s), (3, vI ((i : Nat) : Int)), (4, vI ((byteAt s i : Nat) : Int)), (5, vB (inR s (i + 1) 128 191)), (6, vB (inR s (i + 2) 128 191)), (7, vB (inR s (i + 3) 128 191)), (59, vB ((decide (225 ≤ (byteAt s i : Int)) && decide ((byteAt s i : Int) ≤ 236) || decide ((byteAt s i : Int) = 238) || decide ((byteAt s i : Int) = 239)) && (inR s (i + 1) 128 191) && (inR s (i + 2) 128 191)))] [] ⟨rfl, rfl, rfl, rfl, rfl, rfl, fs_eq rfl (vB_eq (by simp [*])), trivial⟩ trivial) ⟨rfl, rfl⟩
                    · try simp only [decide_eq_true_eq, decide_eq_false_iff_not, beq_iff_eq, beq_eq_false_iff_ne, bne_iff_ne, bne_eq_false_iff_eq, ne_eq, Bool.not_eq_true', Bool.not_eq_false', Decidable.not_not] at hg30
                      refine R.pass (GOk.of rfl rfl rfl _ rfl) rfl ?_
                      first | refine R.pickT (GOk.no rfl) rfl rfl rfl ?_ | refine R.pickF (GOk.no rfl) rfl rfl rfl ?_
                      refine R.assign (GOk.no rfl) rfl rfl ?_
                      refine Run.nil ⟨by kernel_rfl, ?_⟩
                      exact toQ.mk (Gh.weak [(0, vS s), (3, vI ((i : Nat) : Int)), (4, vI ((byteAt s i : Nat) : Int)), (5, vB (inR s (i + 1) 128 191)), (6, vB (inR s (i + 2) 128 191)), (7, vB (inR s (i + 3) 128 191)), (59, vB ((decide (225 ≤ (byteAt s i : Int)) && decide ((byteAt s i : Int) ≤ 236) || decide ((byteAt s i : Int) = 238) || decide ((byteAt s i : Int) = 239)) && (inR s (i + 1) 128 191) && (inR s (i + 2) 128 191)))] [] ⟨rfl, rfl, rfl, rfl, rfl, rfl, fs_eq rfl (vB_eq (by simp [*])), trivial⟩ trivial) ⟨rfl, rfl⟩
                  · try simp only [decide_eq_true_eq, decide_eq_false_iff_not, beq_iff_eq, beq_eq_false_iff_ne, bne_iff_ne, bne_eq_false_iff_eq, ne_eq, Bool.not_eq_true', Bool.not_eq_false', Decidable.not_not] at hg29
                    refine R.move (GOk.of rfl rfl rfl _ rfl) rfl rfl ?_
                    refine R.eql (GOk.of rfl rfl rfl _ rfl) rfl rfl rfl ?_
                    first | refine R.pickT (GOk.no rfl) rfl rfl rfl ?_ | refine R.pickF (GOk.no rfl) rfl rfl rfl ?_
                    refine R.move (GOk.no rfl) rfl rfl ?_
                    refine R.case 74 rfl (fun hg31 => ?_) (fun hg31 => ?_)
                    · try simp only [decide_eq_true_eq, decide_eq_false_iff_not, beq_iff_eq, beq_eq_false_iff_ne, bne_iff_ne, bne_eq_false_iff_eq, ne_eq, Bool.not_eq_true', Bool.not_eq_false', Decidable.not_not] at hg31
                      refine R.move (GOk.of rfl rfl rfl _ rfl) rfl rfl ?_
                      first | refine R.pickT (GOk.no rfl) rfl rfl rfl ?_ | refine R.pickF (GOk.no rfl) rfl rfl rfl ?_
                      refine R.move (GOk.no rfl) rfl rfl ?_
                      refine R.case 77 rfl (fun hg32 => ?_) (fun hg32 => ?_)
                      · try simp only [decide_eq_true_eq, decide_eq_false_iff_not, beq_iff_eq, beq_eq_false_iff_ne, bne_iff_ne, bne_eq_false_iff_eq, ne_eq, Bool.not_eq_true', Bool.not_eq_false', Decidable.not_not] at hg32
                        refine R.move (GOk.of rfl rfl rfl _ rfl) rfl rfl ?_
                        first | refine R.pickT (GOk.no rfl) rfl rfl rfl ?_ | refine R.pickF (GOk.no rfl) rfl rfl rfl ?_
                        refine R.assign (GOk.no rfl) rfl rfl ?_
                        refine Run.nil ⟨by kernel_rfl, ?_⟩
                        exact toQ.mk (Gh.weak [(0, vS s), (3, vI ((i : Nat) : Int)), (4, vI ((byteAt s i : Nat) : Int)), (5, vB (inR s (i + 1) 128 191)), (6, vB (inR s (i + 2) 128 191)), (7, vB (inR s (i + 3) 128 191)), (59, vB ((decide (225 ≤ (byteAt s i : Int)) && decide ((byteAt s i : Int) ≤ 236) || decide ((byteAt s i : Int) = 238) || decide ((byteAt s i : Int) = 239)) && (inR s (i + 1) 128 191) && (inR s (i + 2) 128 191)))] [] ⟨rfl, rfl, rfl, rfl, rfl, rfl, fs_eq rfl (vB_eq (by simp [*])), trivial⟩ trivial) ⟨rfl, rfl⟩
                      · try simp only [decide_eq_true_eq, decide_eq_false_iff_not, beq_iff_eq, beq_eq_false_iff_ne, bne_iff_ne, bne_eq_false_iff_eq, ne_eq, Bool.not_eq_true', Bool.not_eq_false', Decidable.not_not] at hg32
                        refine R.pass (GOk.of rfl rfl rfl _ rfl) rfl ?_
                        first | refine R.pickT (GOk.no rfl) rfl rfl rfl ?_ | refine R.pickF (GOk.no rfl) rfl rfl rfl ?_
                        refine R.assign (GOk.no rfl) rfl rfl ?_
                        refine Run.nil ⟨by kernel_rfl, ?_⟩
                        exact toQ.mk (Gh.weak [(0, vS s), (3, vI ((i : Nat) : Int)), (4, vI ((byteAt s i : Nat) : Int)), (5, vB (inR s (i + 1) 128 191)), (6, vB (inR s (i + 2) 128 191)), (7, vB (inR s (i + 3) 128 191)), (59, vB ((decide (225 ≤ (byteAt s i : Int)) && decide ((byteAt s i : Int) ≤ 236) || decide ((byteAt s i : Int) = 238) || decide ((byteAt s i : Int) = 239)) && (inR s (i + 1) 128 191) && (inR s (i + 2) 128 191)))] [] ⟨rfl, rfl, rfl, rfl, rfl, rfl, fs_eq rfl (vB_eq (by simp [*])), trivial⟩ trivial) ⟨rfl, rfl⟩
                    · try simp only [decide_eq_true_eq, decide_eq_false_iff_not, beq_iff_eq, beq_eq_false_iff_ne, bne_iff_ne, bne_eq_false_iff_eq, ne_eq, Bool.not_eq_true', Bool.not_eq_false', Decidable.not_not] at hg31
                      refine R.pass (GOk.of rfl rfl rfl _ rfl) rfl ?_
                      first | refine R.pickT (GOk.no rfl) rfl rfl rfl ?_ | refine R.pickF (GOk.no rfl) rfl rfl rfl ?_
                      refine R.move (GOk.no rfl) rfl rfl ?_
                      refine R.pass (GOk.of rfl rfl rfl _ rfl) rfl ?_
                      first | refine R.pickT (GOk.no rfl) rfl rfl rfl ?_ | refine R.pickF (GOk.no rfl) rfl rfl rfl ?_
                      refine R.assign (GOk.no rfl) rfl rfl ?_
                      refine Run.nil ⟨by kernel_rfl, ?_⟩
                      exact toQ.mk (Gh.weak [(0, vS s), (3, vI ((i : Nat) : Int)), (4, vI ((byteAt s i : Nat) : Int)), (5, vB (inR s (i + 1) 128 191)), (6, vB (inR s (i + 2) 128 191)), (7, vB (inR s (i + 3) 128 191)), (59, vB ((decide (225 ≤ (byteAt s i : Int)) && decide ((byteAt s i : Int) ≤ 236) || decide ((byteAt s i : Int) = 238) || decide ((byteAt s i : Int) = 239)) && (inR s (i + 1) 128 191) && (inR s (i + 2) 128 191)))] [] ⟨rfl, rfl, rfl, rfl, rfl, rfl, fs_eq rfl (vB_eq (by simp [*])), trivial⟩ trivial) ⟨rfl, rfl⟩
          ·  -- r12
            refine J.region ?_
            refine R.move (GOk.no rfl) rfl rfl ?_
            refine R.eql (GOk.no rfl) rfl rfl rfl ?_
            refine R.move (GOk.no rfl) rfl rfl ?_
            refine R.case 48 rfl (fun hg33 => ?_) (fun hg33 => ?_)
            · try simp only [decide_eq_true_eq, decide_eq_false_iff_not, beq_iff_eq, beq_eq_false_iff_ne, bne_iff_ne, bne_eq_false_iff_eq, ne_eq, Bool.not_eq_true', Bool.not_eq_false', Decidable.not_not] at hg33
              refine R.move (GOk.of rfl rfl rfl _ rfl) rfl rfl ?_
              refine R.move (GOk.of rfl rfl rfl _ rfl) rfl rfl ?_
              refine R.add (GOk.of rfl rfl rfl _ rfl) rfl rfl rfl ⟨by omega, by omega⟩ ?_
              refine R.call [((.tmp 49), _), ((.tmp 51), _), ((.const _), _), ((.const _), _)] (con_42 s (i + 1) 160 191) rfl (GOk.of rfl rfl rfl _ rfl) rfl ⟨rfl, rfl, rfl, rfl, trivial⟩ ?_
              first | refine R.pickT (GOk.no rfl) rfl rfl rfl ?_ | refine R.pickF (GOk.no rfl) rfl rfl rfl ?_
              refine R.move (GOk.no rfl) rfl rfl ?_
              refine R.case 54 rfl (fun hg34 => ?_) (fun hg34 => ?_)
              · try simp only [decide_eq_true_eq, decide_eq_false_iff_not, beq_iff_eq, beq_eq_false_iff_ne, bne_iff_ne, bne_eq_false_iff_eq, ne_eq, Bool.not_eq_true', Bool.not_eq_false', Decidable.not_not] at hg34
                refine R.move (GOk.of rfl rfl rfl _ rfl) rfl rfl ?_
                first | refine R.pickT (GOk.no rfl) rfl rfl rfl ?_ | refine R.pickF (GOk.no rfl) rfl rfl rfl ?_
                refine R.assign (GOk.no rfl) rfl rfl ?_
                refine Run.nil ⟨by kernel_rfl, ?_⟩
                exact toQ.mk (Gh.weak [(0, vS s), (3, vI ((i : Nat) : Int)), (4, vI ((byteAt s i : Nat) : Int)), (5, vB (inR s (i + 1) 128 191)), (6, vB (inR s (i + 2) 128 191)), (7, vB (inR s (i + 3) 128 191)), (45, vB (decide ((byteAt s i : Int) = 224) && inR s (i + 1) 160 191 && (inR s (i + 2) 128 191)))] [] ⟨rfl, rfl, rfl, rfl, rfl, rfl, fs_eq rfl (vB_eq (by simp [*])), trivial⟩ trivial) ⟨rfl, rfl⟩
              · try simp only [decide_eq_true_eq, decide_eq_false_iff_not, beq_iff_eq, beq_eq_false_iff_ne, bne_iff_ne, bne_eq_false_iff_eq, ne_eq, Bool.not_eq_true', Bool.not_eq_false', Decidable.not_not] at hg34
                refine R.pass (GOk.of rfl rfl rfl _ rfl) rfl ?_
                first | refine R.pickT (GOk.no rfl) rfl rfl rfl ?_ | refine R.pickF (GOk.no rfl) rfl rfl rfl ?_
                refine R.assign (GOk.no rfl) rfl rfl ?_
                refine Run.nil ⟨by kernel_rfl, ?_⟩
                exact toQ.mk (Gh.weak [(0, vS s), (3, vI ((i : Nat) : Int)), (4, vI ((byteAt s i : Nat) : Int)), (5, vB (inR s (i + 1) 128 191)), (6, vB (inR s (i + 2) 128 191)), (7, vB (inR s (i + 3) 128 191)), (45, vB (decide ((byteAt s i : Int) = 224) && inR s (i + 1) 160 191 && (inR s (i + 2) 128 191)))] [] ⟨rfl, rfl, rfl, rfl, rfl, rfl, fs_eq rfl (vB_eq (by simp [*])), trivial⟩ trivial) ⟨rfl, rfl⟩
            · try simp only [decide_eq_true_eq, decide_eq_false_iff_not, beq_iff_eq, beq_eq_false_iff_ne, bne_iff_ne, bne_eq_false_iff_eq, ne_eq, Bool.not_eq_true', Bool.not_eq_false', Decidable.not_not] at hg33
              refine R.pass (GOk.of rfl rfl rfl _ rfl) rfl ?_
              refine R.pass (GOk.of rfl rfl rfl _ rfl) rfl ?_
              refine R.pass (GOk.of rfl rfl rfl _ rfl) rfl ?_
              refine R.pass (GOk.of rfl rfl rfl _ rfl) rfl ?_
              first | refine R.pickT (GOk.no rfl) rfl rfl rfl ?_ | refine R.pickF (GOk.no rfl) rfl rfl rfl ?_
              refine R.move (GOk.no rfl) rfl rfl ?_
              refine R.pass (GOk.of rfl rfl rfl _ rfl) rfl ?_
              first | refine R.pickT (GOk.no rfl) rfl rfl rfl ?_ | refine R.pickF (GOk.no rfl) rfl rfl rfl ?_
              refine R.assign (GOk.no rfl) rfl rfl ?_
              refine Run.nil ⟨by kernel_rfl, ?_⟩
              exact toQ.mk (Gh.weak [(0, vS s), (3, vI ((i : Nat) : Int)), (4, vI ((byteAt s i : Nat) : Int)), (5, vB (inR s (i + 1) 128 191)), (6, vB (inR s (i + 2) 128 191)), (7, vB (inR s (i + 3) 128 191)), (45, vB (decide ((byteAt s i : Int) = 224) && inR s (i + 1) 160 191 && (inR s (i + 2) 128 191)))] [] ⟨rfl, rfl, rfl, rfl, rfl, rfl, fs_eq rfl (vB_eq (by simp [*])), trivial⟩ trivial) ⟨rfl, rfl⟩
      ·  -- r10
        refine J.region ?_
        refine R.move (GOk.no rfl) rfl rfl ?_
        refine R.geq (GOk.no rfl) rfl rfl rfl ?_
        refine R.move (GOk.no rfl) rfl rfl ?_
        refine R.case 36 rfl (fun hg35 => ?_) (fun hg35 => ?_)
        · try simp only [decide_eq_true_eq, decide_eq_false_iff_not, beq_iff_eq, beq_eq_false_iff_ne, bne_iff_ne, bne_eq_false_iff_eq, ne_eq, Bool.not_eq_true', Bool.not_eq_false', Decidable.not_not] at hg35
          refine R.move (GOk.of rfl rfl rfl _ rfl) rfl rfl ?_
          refine R.leq (GOk.of rfl rfl rfl _ rfl) rfl rfl rfl ?_
          first | refine R.pickT (GOk.no rfl) rfl rfl rfl ?_ | refine R.pickF (GOk.no rfl) rfl rfl rfl ?_
          refine R.move (GOk.no rfl) rfl rfl ?_
          refine R.case 40 rfl (fun hg36 => ?_) (fun hg36 => ?_)
          · try simp only [decide_eq_true_eq, decide_eq_false_iff_not, beq_iff_eq, beq_eq_false_iff_ne, bne_iff_ne, bne_eq_false_iff_eq, ne_eq, Bool.not_eq_true', Bool.not_eq_false', Decidable.not_not] at hg36
            refine R.move (GOk.of rfl rfl rfl _ rfl) rfl rfl ?_
            first | refine R.pickT (GOk.no rfl) rfl rfl rfl ?_ | refine R.pickF (GOk.no rfl) rfl rfl rfl ?_
            refine R.assign (GOk.no rfl) rfl rfl ?_
            refine Run.nil ⟨by kernel_rfl, ?_⟩
            exact toQ.mk (Gh.weak [(0, vS s), (3, vI ((i : Nat) : Int)), (4, vI ((byteAt s i : Nat) : Int)), (5, vB (inR s (i + 1) 128 191)), (6, vB (inR s (i + 2) 128 191)), (7, vB (inR s (i + 3) 128 191)), (33, vB (decide (194 ≤ (byteAt s i : Int)) && decide ((byteAt s i : Int) ≤ 223) && (inR s (i + 1) 128 191)))] [] ⟨rfl, rfl, rfl, rfl, rfl, rfl, fs_eq rfl (vB_eq (by simp [*])), trivial⟩ trivial) ⟨rfl, rfl⟩
          · try simp only [decide_eq_true_eq, decide_eq_false_iff_not, beq_iff_eq, beq_eq_false_iff_ne, bne_iff_ne, bne_eq_false_iff_eq, ne_eq, Bool.not_eq_true', Bool.not_eq_false', Decidable.not_not] at hg36
            refine R.pass (GOk.of rfl rfl rfl _ rfl) rfl ?_
            first | refine R.pickT (GOk.no rfl) rfl rfl rfl ?_ | refine R.pickF (GOk.no rfl) rfl rfl rfl ?_
            refine R.assign (GOk.no rfl) rfl rfl ?_
            refine Run.nil ⟨by kernel_rfl, ?_⟩
            exact toQ.mk (Gh.weak [(0, vS s), (3, vI ((i : Nat) : Int)), (4, vI ((byteAt s i : Nat) : Int)), (5, vB (inR s (i + 1) 128 191)), (6, vB (inR s (i + 2) 128 191)), (7, vB (inR s (i + 3) 128 191)), (33, vB (decide (194 ≤ (byteAt s i : Int)) && decide ((byteAt s i : Int) ≤ 223) && (inR s (i + 1) 128 191)))] [] ⟨rfl, rfl, rfl, rfl, rfl, rfl, fs_eq rfl (vB_eq (by simp [*])), trivial⟩ trivial) ⟨rfl, rfl⟩
        · try simp only [decide_eq_true_eq, decide_eq_false_iff_not, beq_iff_eq, beq_eq_false_iff_ne, bne_iff_ne, bne_eq_false_iff_eq, ne_eq, Bool.not_eq_true', Bool.not_eq_false', Decidable.not_not] at hg35
          refine R.pass (GOk.of rfl rfl rfl _ rfl) rfl ?_
          refine R.pass (GOk.of rfl rfl rfl _ rfl) rfl ?_
          first | refine R.pickT (GOk.no rfl) rfl rfl rfl ?_ | refine R.pickF (GOk.no rfl) rfl rfl rfl ?_
          refine R.move (GOk.no rfl) rfl rfl ?_
          refine R.pass (GOk.of rfl rfl rfl _ rfl) rfl ?_
          first | refine R.pickT (GOk.no rfl) rfl rfl rfl ?_ | refine R.pickF (GOk.no rfl) rfl rfl rfl ?_
          refine R.assign (GOk.no rfl) rfl rfl ?_
          refine Run.nil ⟨by kernel_rfl, ?_⟩
          exact toQ.mk (Gh.weak [(0, vS s), (3, vI ((i : Nat) : Int)), (4, vI ((byteAt s i : Nat) : Int)), (5, vB (inR s (i + 1) 128 191)), (6, vB (inR s (i + 2) 128 191)), (7, vB (inR s (i + 3) 128 191)), (33, vB (decide (194 ≤ (byteAt s i : Int)) && decide ((byteAt s i : Int) ≤ 223) && (inR s (i + 1) 128 191)))] [] ⟨rfl, rfl, rfl, rfl, rfl, rfl, fs_eq rfl (vB_eq (by simp [*])), trivial⟩ trivial) ⟨rfl, rfl⟩
  · try simp only [decide_eq_true_eq, decide_eq_false_iff_not, beq_iff_eq, beq_eq_false_iff_ne, bne_iff_ne, bne_eq_false_iff_eq, ne_eq, Bool.not_eq_true', Bool.not_eq_false', Decidable.not_not] at hc1
    refine J.exit ?_
    refine J.seq ?_
    refine J.region ?_
    refine R.assign (GOk.no rfl) rfl rfl ?_
    refine Run.nil ⟨by kernel_rfl, ?_⟩
    refine J.ret ?_
    first | exact FinQ.of ⟨ret_eq rfl (svB (by rw [← hI, utf8F_end (by omega)])), trivial⟩ trivial | exact FinQ.of ⟨ret_eq rfl (svB (by rw [← hI, utf8F_none (by omega) (by simp only [stepU, stepV]; simp [*])])), trivial⟩ trivial
theorem con_21 (s : ByteArray) (hs : s.size ≤ 4611686018427387904) : Con Tryd.prog 21 [sS s] [] [sB (textOk s)] [] [] := by
  refine con_of_J [] Tryd.func21 rfl rfl Tryd.ntmps21 rfl (Nat.le_of_ble_eq_true rfl) rfl rfl ?_
  refine J.seq ?_
  refine J.region ?_
  refine R.assign (GOk.no rfl) rfl rfl ?_
  refine Run.nil ⟨by kernel_rfl, ?_⟩
  refine J.seq ?_
  refine J.seq ?_
  refine J.region ?_
  refine R.assign (GOk.no rfl) rfl rfl ?_
  refine Run.nil ⟨by kernel_rfl, ?_⟩
  refine J.block ?_
  refine J.gh (Gh.weak [(0, vS s), (3, vI ((0 : Nat) : Int))] [] ⟨rfl, rfl, trivial⟩ trivial) ?_
  refine J.loopG (fun (i : Nat) f b => (i ≤ s.size ∧ quoteFree s i = true) ∧ f = Facts.fn [(0, vS s), (3, vI ((i : Nat) : Int))] ∧ b = BL.fn []) (fun i => s.size - i) 0 ⟨⟨by omega, rfl⟩, rfl, rfl⟩ ?_
  rintro i f b ⟨⟨hI, hQ⟩, rfl, rfl⟩
  refine J.seq ?_
  refine J.seq ?_
  refine J.region ?_
  refine R.move (GOk.no rfl) rfl rfl ?_
  refine R.move (GOk.no rfl) rfl rfl ?_
  refine R.lenS Tryd.underlying9 (GOk.no rfl) rfl rfl ?_
  refine R.lss (GOk.no rfl) rfl rfl rfl ?_
  refine Run.nil ⟨by kernel_rfl, ?_⟩
  refine J.cond rfl (fun hc1 => ?_) (fun hc1 => ?_)
  · try simp only [decide_eq_true_eq, decide_eq_false_iff_not, beq_iff_eq, beq_eq_false_iff_ne, bne_iff_ne, bne_eq_false_iff_eq, ne_eq, Bool.not_eq_true', Bool.not_eq_false', Decidable.not_not] at hc1
    refine J.skip ?_
    refine J.seq ?_
    refine J.block ?_
    refine J.seq ?_
    refine J.region ?_
    refine R.move (GOk.no rfl) rfl rfl ?_
    refine R.move (GOk.no rfl) rfl rfl ?_
    refine R.idxSM Tryd.underlying9 (GOk.no rfl) rfl rfl rfl (by omega) (by omega) ?_
    refine R.spell 12 rfl (show _ = vU8 ((byteAt s (i) : Nat) : Int) from rfl) ?_
    refine R.eql (GOk.no rfl) rfl rfl rfl ?_
    refine Run.nil ⟨by kernel_rfl, ?_⟩
    refine J.cond rfl (fun hc2 => ?_) (fun hc2 => ?_)
    · try simp only [decide_eq_true_eq, decide_eq_false_iff_not, beq_iff_eq, beq_eq_false_iff_ne, bne_iff_ne, bne_eq_false_iff_eq, ne_eq, Bool.not_eq_true', Bool.not_eq_false', Decidable.not_not] at hc2
      refine J.seq ?_
      refine J.region ?_
      refine R.assign (GOk.no rfl) rfl rfl ?_
      refine Run.nil ⟨by kernel_rfl, ?_⟩
      refine J.ret ?_
      first | exact FinQ.of ⟨ret_eq rfl (svB (by rw [textOk, quoteFree_false (k := i) (by omega) _ (by omega), Bool.false_and])), trivial⟩ trivial | exact FinQ.of ⟨ret_eq rfl (svB (by have e : i = s.size := (by omega); subst e; simp [textOk, hQ] <;> (intros; omega))), trivial⟩ trivial
    · try simp only [decide_eq_true_eq, decide_eq_false_iff_not, beq_iff_eq, beq_eq_false_iff_ne, bne_iff_ne, bne_eq_false_iff_eq, ne_eq, Bool.not_eq_true', Bool.not_eq_false', Decidable.not_not] at hc2
      refine J.skip ?_
      refine J.region ?_
      refine R.move (GOk.no rfl) rfl rfl ?_
      refine R.add (GOk.no rfl) rfl rfl rfl ⟨by omega, by omega⟩ ?_
      refine R.assign (GOk.no rfl) rfl rfl ?_
      refine Run.nil ⟨by kernel_rfl, ?_⟩
      exact toQ.mk (Gh.weak [(0, vS s), (3, vI (((i + 1) : Nat) : Int))] [] ⟨rfl, rfl, trivial⟩ trivial) ⟨(i + 1), ⟨⟨by omega, by rw [quoteFree, hQ, Bool.true_and]; simp; omega⟩, rfl, rfl⟩, by omega⟩
  · try simp only [decide_eq_true_eq, decide_eq_false_iff_not, beq_iff_eq, beq_eq_false_iff_ne, bne_iff_ne, bne_eq_false_iff_eq, ne_eq, Bool.not_eq_true', Bool.not_eq_false', Decidable.not_not] at hc1
    refine J.exit ?_
    refine J.seq ?_
    refine J.region ?_
    refine R.move (GOk.no rfl) rfl rfl ?_
    refine R.lenS Tryd.underlying9 (GOk.no rfl) rfl rfl ?_
    refine R.gtr (GOk.no rfl) rfl rfl rfl ?_
    refine R.move (GOk.no rfl) rfl rfl ?_
    refine R.case 17 rfl (fun hg3 => ?_) (fun hg3 => ?_)
    · try simp only [decide_eq_true_eq, decide_eq_false_iff_not, beq_iff_eq, beq_eq_false_iff_ne, bne_iff_ne, bne_eq_false_iff_eq, ne_eq, Bool.not_eq_true', Bool.not_eq_false', Decidable.not_not] at hg3
      refine R.move (GOk.of rfl rfl rfl _ rfl) rfl rfl ?_
      refine R.call [((.tmp 18), _)] (con_38 s hs) rfl (GOk.of rfl rfl rfl _ rfl) rfl ⟨rfl, trivial⟩ ?_
      first | refine R.pickT (GOk.no rfl) rfl rfl rfl ?_ | refine R.pickF (GOk.no rfl) rfl rfl rfl ?_
      refine R.assign (GOk.no rfl) rfl rfl ?_
      refine Run.nil ⟨by kernel_rfl, ?_⟩
      refine J.ret ?_
      first | exact FinQ.of ⟨ret_eq rfl (svB (by rw [textOk, quoteFree_false (k := i) (by omega) _ (by omega), Bool.false_and])), trivial⟩ trivial | exact FinQ.of ⟨ret_eq rfl (svB (by have e : i = s.size := (by omega); subst e; simp [textOk, hQ] <;> (intros; omega))), trivial⟩ trivial
    · try simp only [decide_eq_true_eq, decide_eq_false_iff_not, beq_iff_eq, beq_eq_false_iff_ne, bne_iff_ne, bne_eq_false_iff_eq, ne_eq, Bool.not_eq_true', Bool.not_eq_false', Decidable.not_not] at hg3
      refine R.pass (GOk.of rfl rfl rfl _ rfl) rfl ?_
      refine R.pass (GOk.of rfl rfl rfl _ rfl) rfl ?_
      first | refine R.pickT (GOk.no rfl) rfl rfl rfl ?_ | refine R.pickF (GOk.no rfl) rfl rfl rfl ?_
      refine R.assign (GOk.no rfl) rfl rfl ?_
      refine Run.nil ⟨by kernel_rfl, ?_⟩
      refine J.ret ?_
      first | exact FinQ.of ⟨ret_eq rfl (svB (by rw [textOk, quoteFree_false (k := i) (by omega) _ (by omega), Bool.false_and])), trivial⟩ trivial | exact FinQ.of ⟨ret_eq rfl (svB (by have e : i = s.size := (by omega); subst e; simp [textOk, hQ] <;> (intros; omega))), trivial⟩ trivial
end Go.Sc
