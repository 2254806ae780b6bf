/-
  PrintDeep: the walks of the small functions. (Printed by a program of ours.)
-/
import Derived.Test.YtfaepfnjilgioaaDoorProg
import Derived.Test.YtfaepfnjilgioaaDoorScB1
set_option linter.all false
set_option linter.unusedSimpArgs false
set_option linter.unusedVariables false
namespace Go.Sc
open Go Go.Proofs Go.Abs
set_option maxRecDepth 4000

theorem bt_30 : BT Tryd.prog 30 [.int .u64 0, .int .u64 0, .int .u64 0, .int .u64 0] (fun i => some (i * 1, 1)) := BT.array Tryd.underlying30 Tryd.zeroValue30 rfl Tryd.sizeOf28 rfl
theorem bt_32 : BT Tryd.prog 32 [.int .i64 0, .int .i64 0, .int .i64 0, .int .i64 0, .int .i64 0, .int .u64 0, .int .u64 0, .int .u64 0, .int .u64 0, .string ⟨#[]⟩] (#[(0, 1), (1, 1), (2, 1), (3, 1), (4, 1), (5, 4), (9, 1)][·]?) :=
  BT.struct Tryd.underlying32 Tryd.zeroValue32 rfl (fun w => by simp [Array.mapM_eq_foldlM, Sem.run_bind, Tryd.sizeOf3, Tryd.sizeOf9, Tryd.sizeOf30, Result.andThen]) rfl
theorem bt_24 : BT Tryd.prog 24 [.slice none 0 0] (#[(0, 1)][·]?) :=
  BT.struct Tryd.underlying24 Tryd.zeroValue24 rfl (fun w => by simp [Array.mapM_eq_foldlM, Sem.run_bind, Tryd.sizeOf22, Result.andThen]) rfl

theorem con_18 (a : Cls) (c : Nat) (hc : c < 256) : Con Tryd.prog 18 [.pag (encC a), s8 c] [] [sB (a.has c)] [] [] := by
  refine con_of_J [] Tryd.func18 rfl rfl Tryd.ntmps18 rfl (Nat.le_of_ble_eq_true rfl) rfl rfl ?_
  refine J.seq ?_
  refine J.region ?_
  first | refine R.boxP rfl (GOk.no rfl) rfl rfl ?_ | refine R.boxA (GOk.no rfl) rfl rfl rfl ?_
  refine R.assign (GOk.no rfl) rfl rfl ?_
  refine Run.nil ⟨by kernel_rfl, ?_⟩
  refine J.seq ?_
  refine J.region ?_
  refine R.move (GOk.no rfl) rfl rfl ?_
  refine R.quoW (GOk.no rfl) rfl rfl rfl (by decide) ?_
  refine R.spell 6 rfl (show _ = vU8 ((c / 64 : Nat) : Int) from by rw [show (c : Int).tdiv 64 = ((c / 64 : Nat) : Int) from by rw [Int.tdiv_eq_ediv_of_nonneg (by omega)]; omega]; rw [wrap_u8 (by omega) (by omega)]) ?_
  refine R.idxArr Tryd.underlying30 Tryd.sizeOf28 (GOk.no rfl) rfl rfl rfl (by omega) (by omega) ?_
  refine R.ldP1 (c := pU (a.get (c / 64))) Tryd.isAgg28 (GOk.no rfl) rfl rfl rfl (by have := encC_get a (i := c / 64) (by omega); rw [show (0 + ((c / 64 : Nat) : Int).toNat * 1) = c / 64 from by omega]; exact this) ?_
  refine R.move (GOk.no rfl) rfl rfl ?_
  refine R.rem (GOk.no rfl) rfl rfl rfl (by decide) ?_
  refine R.shr (GOk.no rfl) rfl rfl rfl (Int.tmod_nonneg _ (by omega)) ?_
  refine R.and (GOk.no rfl) rfl rfl rfl ?_
  refine R.eql (GOk.no rfl) rfl rfl rfl ?_
  refine R.assign (GOk.no rfl) rfl rfl ?_
  refine Run.nil ⟨by kernel_rfl, ?_⟩
  refine J.ret ?_
  exact FinQ.of ⟨ret_eq rfl (svB (by
    have e1 : (c : Int).tmod 64 = ((c % 64 : Nat) : Int) := by rw [Int.tmod_eq_emod_of_nonneg (by omega)]; omega
    have e2 : min ((c : Int).tmod 64).toNat (IntKind.bits .u64) = c % 64 := by rw [e1]; simp [IntKind.bits]; omega
    rw [e2]
    rw [and_one]; rfl)), trivial⟩ trivial
theorem con_17 (a : Cls) : Con Tryd.prog 17 [.pag (encC a)] [] [sI (a.count 256)] [] [] := by
  refine con_of_J [] Tryd.func17 rfl rfl Tryd.ntmps17 rfl (Nat.le_of_ble_eq_true rfl) rfl rfl ?_
  refine J.seq ?_
  refine J.region ?_
  first | refine R.boxP rfl (GOk.no rfl) rfl rfl ?_ | refine R.boxA (GOk.no rfl) rfl rfl rfl ?_
  refine R.assign (GOk.no rfl) rfl rfl ?_
  refine Run.nil ⟨by kernel_rfl, ?_⟩
  refine J.seq ?_
  refine J.region ?_
  refine R.assign (GOk.no rfl) rfl rfl ?_
  refine Run.nil ⟨by kernel_rfl, ?_⟩
  refine J.seq ?_
  refine J.seq ?_
  refine J.region ?_
  refine R.move (GOk.no rfl) rfl rfl ?_
  refine Run.nil ⟨by kernel_rfl, ?_⟩
  refine J.block ?_
  refine J.gh (Gh.weak [(5, vI ((0 : Nat) : Int)), (3, vI (a.count (0))), (1, vC (.ptr 1 0))] [(1, some (.pbox (encC a)))] ⟨rfl, rfl, rfl, trivial⟩ ⟨rfl, trivial⟩) ?_
  refine J.loopG (fun (k : Nat) f b => (k ≤ 256) ∧ f = Facts.fn [(5, vI ((k : Nat) : Int)), (3, vI (a.count (k))), (1, vC (.ptr 1 0))] ∧ b = BL.fn [(1, some (.pbox (encC a)))]) (fun k => 256 - k) 0 ⟨by omega, rfl, rfl⟩ ?_
  rintro k f b ⟨hI, rfl, rfl⟩
  have hb := a.count_bound k
  refine J.seq ?_
  refine J.region ?_
  refine R.lss (GOk.no rfl) rfl rfl rfl ?_
  refine Run.nil ⟨by kernel_rfl, ?_⟩
  refine J.seq ?_
  refine J.cond rfl (fun hc1 => ?_) (fun hc1 => ?_)
  · try simp only [decide_eq_true_eq, decide_eq_false_iff_not, beq_iff_eq, beq_eq_false_iff_ne, bne_iff_ne, bne_eq_false_iff_eq, ne_eq, Bool.not_eq_true', Bool.not_eq_false', Decidable.not_not] at hc1
    refine J.skip ?_
    refine J.seq ?_
    refine J.block ?_
    refine J.seq ?_
    refine J.region ?_
    refine R.move (GOk.no rfl) rfl rfl ?_
    refine R.assign (GOk.no rfl) rfl rfl ?_
    refine Run.nil ⟨by kernel_rfl, ?_⟩
    refine J.seq ?_
    refine J.region ?_
    first | refine R.ldPA Tryd.isAgg30 Tryd.sizeOf30 (GOk.no rfl) rfl rfl rfl (Nat.le_of_ble_eq_true rfl) ?_ | refine R.ldAtA Tryd.isAgg30 Tryd.sizeOf30 (GOk.no rfl) rfl rfl (Nat.le_of_ble_eq_true rfl) ?_ | refine R.ldBA Tryd.isAgg30 Tryd.sizeOf30 (GOk.no rfl) rfl rfl rfl (Nat.le_of_ble_eq_true rfl) ?_ | refine R.ldElMA Tryd.isAgg30 Tryd.sizeOf30 (GOk.no rfl) rfl rfl rfl (by omega) (Nat.le_of_ble_eq_true rfl) ?_
    refine R.move (GOk.no rfl) rfl rfl ?_
    refine R.conv (GOk.no rfl) rfl rfl Tryd.underlying3 Tryd.underlying5 ?_
    refine R.spell 10 rfl (show _ = vU8 (k : Int) from vI_eq (wrap_u8 (by omega) (by omega))) ?_
    refine R.call [((.tmp 8), _), ((.tmp 10), _)] (con_18 a k (by omega)) rfl (GOk.no rfl) rfl ⟨rfl, rfl, trivial⟩ ?_
    refine Run.nil ⟨by kernel_rfl, ?_⟩
    refine J.cond rfl (fun hc2 => ?_) (fun hc2 => ?_)
    · try simp only [decide_eq_true_eq, decide_eq_false_iff_not, beq_iff_eq, beq_eq_false_iff_ne, bne_iff_ne, bne_eq_false_iff_eq, ne_eq, Bool.not_eq_true', Bool.not_eq_false', Decidable.not_not] at hc2
      refine J.region ?_
      refine R.move (GOk.no rfl) rfl rfl ?_
      refine R.add (GOk.no rfl) rfl rfl rfl ⟨by omega, by omega⟩ ?_
      refine R.assign (GOk.no rfl) rfl rfl ?_
      refine Run.nil ⟨by kernel_rfl, ?_⟩
      refine J.region ?_
      refine R.add (GOk.no rfl) rfl rfl rfl ⟨by omega, by omega⟩ ?_
      refine R.move (GOk.no rfl) rfl rfl ?_
      refine Run.nil ⟨by kernel_rfl, ?_⟩
      exact toQ.mk (Gh.weak [(5, vI (((k + 1) : Nat) : Int)), (3, vI (a.count ((k + 1)))), (1, vC (.ptr 1 0))] [(1, some (.pbox (encC a)))] ⟨rfl, fs_eq rfl (vI_eq (by simp [Cls.count, *])), rfl, trivial⟩ ⟨rfl, trivial⟩) ⟨(k + 1), ⟨by omega, rfl, rfl⟩, by omega⟩
    · try simp only [decide_eq_true_eq, decide_eq_false_iff_not, beq_iff_eq, beq_eq_false_iff_ne, bne_iff_ne, bne_eq_false_iff_eq, ne_eq, Bool.not_eq_true', Bool.not_eq_false', Decidable.not_not] at hc2
      refine J.skip ?_
      refine J.region ?_
      refine R.add (GOk.no rfl) rfl rfl rfl ⟨by omega, by omega⟩ ?_
      refine R.move (GOk.no rfl) rfl rfl ?_
      refine Run.nil ⟨by kernel_rfl, ?_⟩
      exact toQ.mk (Gh.weak [(5, vI (((k + 1) : Nat) : Int)), (3, vI (a.count ((k + 1)))), (1, vC (.ptr 1 0))] [(1, some (.pbox (encC a)))] ⟨rfl, fs_eq rfl (vI_eq (by simp [Cls.count, *])), rfl, trivial⟩ ⟨rfl, trivial⟩) ⟨(k + 1), ⟨by omega, rfl, rfl⟩, by omega⟩
  · try simp only [decide_eq_true_eq, decide_eq_false_iff_not, beq_iff_eq, beq_eq_false_iff_ne, bne_iff_ne, bne_eq_false_iff_eq, ne_eq, Bool.not_eq_true', Bool.not_eq_false', Decidable.not_not] at hc1
    refine J.exit ?_
    refine J.seq ?_
    refine J.region ?_
    refine R.move (GOk.no rfl) rfl rfl ?_
    refine R.assign (GOk.no rfl) rfl rfl ?_
    refine Run.nil ⟨by kernel_rfl, ?_⟩
    refine J.ret ?_
    exact FinQ.of ⟨ret_eq rfl (svI (by rw [show k = 256 from by omega])), trivial⟩ trivial
theorem con_19 (c : Nat) (hc : c < 256) : Con Tryd.prog 19 [sI c] [] [sS (hexS c)] [] [] := by
  refine con_of_J [] Tryd.func19 rfl rfl Tryd.ntmps19 rfl (Nat.le_of_ble_eq_true rfl) rfl rfl ?_
  refine J.seq ?_
  refine J.region ?_
  refine R.assign (GOk.no rfl) rfl rfl ?_
  refine Run.nil ⟨by kernel_rfl, ?_⟩
  refine J.seq ?_
  refine J.draw rfl ?_
  refine R.move (GOk.no rfl) rfl rfl ?_
  refine R.quoW (GOk.no rfl) rfl rfl rfl (by decide) ?_
  refine R.spell 4 rfl (show _ = vI ((c / 16 : Nat) : Int) from vI_eq (quo_nat (m := 16) (by omega))) ?_
  refine R.move (GOk.no rfl) rfl rfl ?_
  refine R.quoW (GOk.no rfl) rfl rfl rfl (by decide) ?_
  refine R.spell 6 rfl (show _ = vI ((c / 16 : Nat) : Int) from vI_eq (quo_nat (m := 16) (by omega))) ?_
  refine R.add (GOk.no rfl) rfl rfl rfl ⟨by omega, by omega⟩ ?_
  refine R.slS Tryd.underlying9 (GOk.no rfl) rfl rfl rfl rfl (by omega) (by omega) (by show _ ≤ ((16 : Nat) : Int); omega) ?_
  refine R.move (GOk.no rfl) rfl rfl ?_
  refine R.rem (GOk.no rfl) rfl rfl rfl (by decide) ?_
  refine R.spell 10 rfl (show _ = vI ((c % 16 : Nat) : Int) from rfl) ?_
  refine R.move (GOk.no rfl) rfl rfl ?_
  refine R.rem (GOk.no rfl) rfl rfl rfl (by decide) ?_
  refine R.spell 12 rfl (show _ = vI ((c % 16 : Nat) : Int) from rfl) ?_
  refine R.add (GOk.no rfl) rfl rfl rfl ⟨by omega, by omega⟩ ?_
  refine R.slS Tryd.underlying9 (GOk.no rfl) rfl rfl rfl rfl (by omega) (by omega) (by show _ ≤ ((16 : Nat) : Int); omega) ?_
  refine R.addS (GOk.no rfl) rfl rfl rfl (Int.le_trans (Int.ofNat_le.2 (Nat.add_le_add (ext_le _ _ _) (ext_le _ _ _))) (by decide)) ?_
  refine R.assign (GOk.no rfl) rfl rfl ?_
  refine Run.nil ⟨by kernel_rfl, ?_⟩
  refine J.ret ?_
  exact FinQ.of ⟨ret_eq rfl (rfl), trivial⟩ trivial
theorem con_16 (l : List Bool) (hl : l.length = 256) : Con Tryd.prog 16 [sL 1 (l.map fun b => [pB b])] [] [.pag (encC (clsOf fun i => l[i]!))] [] [] := by
  refine con_of_J [] Tryd.func16 rfl rfl Tryd.ntmps16 rfl (Nat.le_of_ble_eq_true rfl) rfl rfl ?_
  refine J.seq ?_
  refine J.region ?_
  refine R.alloc _ (GOk.no rfl) rfl _ Tryd.zeroValue30 rfl rfl ?_
  refine Run.nil ⟨by kernel_rfl, ?_⟩
  refine J.seq ?_
  refine J.region ?_
  refine R.alloc _ (GOk.no rfl) rfl _ Tryd.zeroValue30 rfl rfl ?_
  refine Run.nil ⟨by kernel_rfl, ?_⟩
  refine J.seq ?_
  refine J.seq ?_
  refine J.region ?_
  refine R.assign (GOk.no rfl) rfl rfl ?_
  refine Run.nil ⟨by kernel_rfl, ?_⟩
  refine J.block ?_
  refine J.gh (Gh.weak [(4, vI ((0 : Nat) : Int)), (0, vL 1 (l.map fun b => [pB b])), (2, vC (.ptr 2 0)), (3, vC (.ptr 3 0))] [(3, some (.pbox (ofCells (fun i => l[i]!) 0 0))), (2, some (.pbox [pU 0, pU 0, pU 0, pU 0]))] ⟨rfl, rfl, rfl, rfl, trivial⟩ ⟨rfl, rfl, trivial⟩) ?_
  refine J.loopG (fun (w : Nat) f b => (w ≤ 4) ∧ f = Facts.fn [(4, vI ((w : Nat) : Int)), (0, vL 1 (l.map fun b => [pB b])), (2, vC (.ptr 2 0)), (3, vC (.ptr 3 0))] ∧ b = BL.fn [(3, some (.pbox (ofCells (fun i => l[i]!) w 0))), (2, some (.pbox [pU 0, pU 0, pU 0, pU 0]))]) (fun w => 4 - w) 0 ⟨by omega, rfl, rfl⟩ ?_
  rintro w f b ⟨hw, rfl, rfl⟩
  refine J.seq ?_
  refine J.seq ?_
  refine J.region ?_
  refine R.move (GOk.no rfl) rfl rfl ?_
  refine R.lss (GOk.no rfl) rfl rfl rfl ?_
  refine Run.nil ⟨by kernel_rfl, ?_⟩
  refine J.cond rfl (fun hc1 => ?_) (fun hc1 => ?_)
  · try simp only [decide_eq_true_eq, decide_eq_false_iff_not, beq_iff_eq, beq_eq_false_iff_ne, bne_iff_ne, bne_eq_false_iff_eq, ne_eq, Bool.not_eq_true', Bool.not_eq_false', Decidable.not_not] at hc1
    refine J.skip ?_
    refine J.seq ?_
    refine J.block ?_
    refine J.seq ?_
    refine J.region ?_
    refine R.assign (GOk.no rfl) rfl rfl ?_
    refine Run.nil ⟨by kernel_rfl, ?_⟩
    refine J.seq ?_
    refine J.region ?_
    refine R.assign (GOk.no rfl) rfl rfl ?_
    refine Run.nil ⟨by kernel_rfl, ?_⟩
    refine J.block ?_
    refine J.gh (Gh.weak [(6, vI ((0 : Nat) : Int)), (5, vV (.int .u64 (bitv 0))), (4, vI ((w : Nat) : Int)), (0, vL 1 (l.map fun b => [pB b])), (2, vC (.ptr 2 0)), (3, vC (.ptr 3 0))] [(3, some (.pbox (ofCells (fun i => l[i]!) w 0))), (2, some (.pbox [pU 0, pU 0, pU 0, pU 0]))] ⟨rfl, rfl, rfl, rfl, rfl, rfl, trivial⟩ ⟨rfl, rfl, trivial⟩) ?_
    refine J.loopG (fun (k : Nat) f b => (k ≤ 64) ∧ f = Facts.fn [(6, vI ((k : Nat) : Int)), (5, vV (.int .u64 (bitv k))), (4, vI ((w : Nat) : Int)), (0, vL 1 (l.map fun b => [pB b])), (2, vC (.ptr 2 0)), (3, vC (.ptr 3 0))] ∧ b = BL.fn [(3, some (.pbox (ofCells (fun i => l[i]!) w k))), (2, some (.pbox [pU 0, pU 0, pU 0, pU 0]))]) (fun k => 64 - k) 0 ⟨by omega, rfl, rfl⟩ ?_
    rintro k f b ⟨hI, rfl, rfl⟩
    refine J.seq ?_
    refine J.seq ?_
    refine J.region ?_
    refine R.move (GOk.no rfl) rfl rfl ?_
    refine R.lss (GOk.no rfl) rfl rfl rfl ?_
    refine Run.nil ⟨by kernel_rfl, ?_⟩
    refine J.cond rfl (fun hc2 => ?_) (fun hc2 => ?_)
    · try simp only [decide_eq_true_eq, decide_eq_false_iff_not, beq_iff_eq, beq_eq_false_iff_ne, bne_iff_ne, bne_eq_false_iff_eq, ne_eq, Bool.not_eq_true', Bool.not_eq_false', Decidable.not_not] at hc2
      refine J.skip ?_
      refine J.seq ?_
      refine J.block ?_
      refine J.joinF [(6, vI ((k : Nat) : Int)), (5, vV (.int .u64 (bitv k))), (4, vI ((w : Nat) : Int)), (0, vL 1 (l.map fun b => [pB b])), (2, vC (.ptr 2 0)), (3, vC (.ptr 3 0))] [(3, some (.pbox (ofCells (fun i => l[i]!) w (k + 1)))), (2, some (.pbox [pU 0, pU 0, pU 0, pU 0]))] ?_ ?_
      ·  -- behind c21
        refine J.region ?_
        refine R.move (GOk.no rfl) rfl rfl ?_
        refine R.mulW (GOk.no rfl) rfl rfl rfl ?_
        refine R.assign (GOk.no rfl) rfl rfl ?_
        refine Run.nil ⟨by kernel_rfl, ?_⟩
        refine J.region ?_
        refine R.move (GOk.no rfl) rfl rfl ?_
        refine R.add (GOk.no rfl) rfl rfl rfl ⟨by omega, by omega⟩ ?_
        refine R.assign (GOk.no rfl) rfl rfl ?_
        refine Run.nil ⟨by kernel_rfl, ?_⟩
        exact toQ.mk (Gh.weak [(6, vI (((k + 1) : Nat) : Int)), (5, vV (.int .u64 (bitv (k + 1)))), (4, vI ((w : Nat) : Int)), (0, vL 1 (l.map fun b => [pB b])), (2, vC (.ptr 2 0)), (3, vC (.ptr 3 0))] [(3, some (.pbox (ofCells (fun i => l[i]!) w (k + 1)))), (2, some (.pbox [pU 0, pU 0, pU 0, pU 0]))] ⟨rfl, fs_eq rfl (vI_eq (bitv_succ k)), rfl, rfl, rfl, rfl, trivial⟩ ⟨rfl, rfl, trivial⟩) ⟨(k + 1), ⟨by omega, rfl, rfl⟩, by omega⟩
      ·  -- c21
        refine J.seq ?_
        refine J.region ?_
        refine R.move (GOk.no rfl) rfl rfl ?_
        refine R.move (GOk.no rfl) rfl rfl ?_
        refine R.mul (GOk.no rfl) rfl rfl rfl ⟨by omega, by omega⟩ ?_
        refine R.move (GOk.no rfl) rfl rfl ?_
        refine R.add (GOk.no rfl) rfl rfl rfl ⟨by omega, by omega⟩ ?_
        refine R.idxM Tryd.underlying43 Tryd.sizeOf4 (GOk.no rfl) rfl rfl rfl (by omega) (by omega) ?_
        refine R.ldAt1 Tryd.isAgg4 (GOk.no rfl) rfl rfl rfl ?_
        refine R.spell 21 rfl (show _ = vB (l[64 * w + k]!) from rfl) ?_
        refine Run.nil ⟨by kernel_rfl, ?_⟩
        refine J.cond rfl (fun hc3 => ?_) (fun hc3 => ?_)
        · try simp only [decide_eq_true_eq, decide_eq_false_iff_not, beq_iff_eq, beq_eq_false_iff_ne, bne_iff_ne, bne_eq_false_iff_eq, ne_eq, Bool.not_eq_true', Bool.not_eq_false', Decidable.not_not] at hc3
          refine J.region ?_
          refine R.move (GOk.no rfl) rfl rfl ?_
          refine R.move (GOk.no rfl) rfl rfl ?_
          refine R.idxArr Tryd.underlying30 Tryd.sizeOf28 (GOk.no rfl) rfl rfl rfl (by omega) (by omega) ?_
          refine R.ldP1 (c := pU (ofVal (fun i => l[i]!) w k w)) Tryd.isAgg28 (GOk.no rfl) rfl rfl rfl (by have := ofCells_get (fun i => l[i]!) w k (j := w) (by omega); rw [show 0 + (w : Int).toNat * 1 = w from by omega]; exact this) ?_
          refine R.move (GOk.no rfl) rfl rfl ?_
          refine R.addW (GOk.no rfl) rfl rfl rfl ?_
          refine R.idxArr Tryd.underlying30 Tryd.sizeOf28 (GOk.no rfl) rfl rfl rfl (by omega) (by omega) ?_
          refine R.stP Tryd.sizeOf28 (GOk.no rfl) rfl rfl rfl rfl rfl (by show 0 + (w : Int).toNat * 1 + 1 ≤ 4; omega) ?_
          refine Run.nil ⟨by kernel_rfl, ?_⟩
          first | exact toQ.mk (Gh.weak [(6, vI ((k : Nat) : Int)), (5, vV (.int .u64 (bitv k))), (4, vI ((w : Nat) : Int)), (0, vL 1 (l.map fun b => [pB b])), (2, vC (.ptr 2 0)), (3, vC (.ptr 3 0))] [(3, some (.pbox (ofCells (fun i => l[i]!) w (k + 1)))), (2, some (.pbox [pU 0, pU 0, pU 0, pU 0]))] ⟨rfl, rfl, rfl, rfl, rfl, rfl, trivial⟩ ⟨bi_eq rfl (by rw [show 0 + (w : Int).toNat * 1 = w from by omega]; exact congrArg _ (ofCells_set (fun i => l[i]!) (by omega) (ofVal_add (fun i => l[i]!) (by omega) (by assumption)))), rfl, trivial⟩) ⟨rfl, rfl⟩ | exact toQ.mk (Gh.weak [(6, vI ((k : Nat) : Int)), (5, vV (.int .u64 (bitv k))), (4, vI ((w : Nat) : Int)), (0, vL 1 (l.map fun b => [pB b])), (2, vC (.ptr 2 0)), (3, vC (.ptr 3 0))] [(3, some (.pbox (ofCells (fun i => l[i]!) w (k + 1)))), (2, some (.pbox [pU 0, pU 0, pU 0, pU 0]))] ⟨rfl, rfl, rfl, rfl, rfl, rfl, trivial⟩ ⟨bi_eq rfl (congrArg _ (ofCells_same (fun i => l[i]!) (by assumption)).symm), rfl, trivial⟩) ⟨rfl, rfl⟩
        · try simp only [decide_eq_true_eq, decide_eq_false_iff_not, beq_iff_eq, beq_eq_false_iff_ne, bne_iff_ne, bne_eq_false_iff_eq, ne_eq, Bool.not_eq_true', Bool.not_eq_false', Decidable.not_not] at hc3
          refine J.skip ?_
          first | exact toQ.mk (Gh.weak [(6, vI ((k : Nat) : Int)), (5, vV (.int .u64 (bitv k))), (4, vI ((w : Nat) : Int)), (0, vL 1 (l.map fun b => [pB b])), (2, vC (.ptr 2 0)), (3, vC (.ptr 3 0))] [(3, some (.pbox (ofCells (fun i => l[i]!) w (k + 1)))), (2, some (.pbox [pU 0, pU 0, pU 0, pU 0]))] ⟨rfl, rfl, rfl, rfl, rfl, rfl, trivial⟩ ⟨bi_eq rfl (by rw [show 0 + (w : Int).toNat * 1 = w from by omega]; exact congrArg _ (ofCells_set (fun i => l[i]!) (by omega) (ofVal_add (fun i => l[i]!) (by omega) (by assumption)))), rfl, trivial⟩) ⟨rfl, rfl⟩ | exact toQ.mk (Gh.weak [(6, vI ((k : Nat) : Int)), (5, vV (.int .u64 (bitv k))), (4, vI ((w : Nat) : Int)), (0, vL 1 (l.map fun b => [pB b])), (2, vC (.ptr 2 0)), (3, vC (.ptr 3 0))] [(3, some (.pbox (ofCells (fun i => l[i]!) w (k + 1)))), (2, some (.pbox [pU 0, pU 0, pU 0, pU 0]))] ⟨rfl, rfl, rfl, rfl, rfl, rfl, trivial⟩ ⟨bi_eq rfl (congrArg _ (ofCells_same (fun i => l[i]!) (by assumption)).symm), rfl, trivial⟩) ⟨rfl, rfl⟩
    · try simp only [decide_eq_true_eq, decide_eq_false_iff_not, beq_iff_eq, beq_eq_false_iff_ne, bne_iff_ne, bne_eq_false_iff_eq, ne_eq, Bool.not_eq_true', Bool.not_eq_false', Decidable.not_not] at hc2
      refine J.exit ?_
      refine J.region ?_
      refine R.move (GOk.no rfl) rfl rfl ?_
      refine R.add (GOk.no rfl) rfl rfl rfl ⟨by omega, by omega⟩ ?_
      refine R.assign (GOk.no rfl) rfl rfl ?_
      refine Run.nil ⟨by kernel_rfl, ?_⟩
      exact toQ.mk (Gh.weak [(4, vI (((w + 1) : Nat) : Int)), (0, vL 1 (l.map fun b => [pB b])), (2, vC (.ptr 2 0)), (3, vC (.ptr 3 0))] [(3, some (.pbox (ofCells (fun i => l[i]!) (w + 1) 0))), (2, some (.pbox [pU 0, pU 0, pU 0, pU 0]))] ⟨rfl, rfl, rfl, rfl, trivial⟩ ⟨bi_eq rfl (by rw [ofCells_next, show k = 64 from by omega]), rfl, trivial⟩) ⟨(w + 1), ⟨by omega, rfl, rfl⟩, by omega⟩
  · try simp only [decide_eq_true_eq, decide_eq_false_iff_not, beq_iff_eq, beq_eq_false_iff_ne, bne_iff_ne, bne_eq_false_iff_eq, ne_eq, Bool.not_eq_true', Bool.not_eq_false', Decidable.not_not] at hc1
    refine J.exit ?_
    refine J.seq ?_
    refine J.region ?_
    first | refine R.ldPA Tryd.isAgg30 Tryd.sizeOf30 (GOk.no rfl) rfl rfl rfl (Nat.le_of_ble_eq_true rfl) ?_ | refine R.ldAtA Tryd.isAgg30 Tryd.sizeOf30 (GOk.no rfl) rfl rfl (Nat.le_of_ble_eq_true rfl) ?_ | refine R.ldBA Tryd.isAgg30 Tryd.sizeOf30 (GOk.no rfl) rfl rfl rfl (Nat.le_of_ble_eq_true rfl) ?_ | refine R.ldElMA Tryd.isAgg30 Tryd.sizeOf30 (GOk.no rfl) rfl rfl rfl (by omega) (Nat.le_of_ble_eq_true rfl) ?_
    first | refine R.stP Tryd.sizeOf30 (GOk.no rfl) rfl rfl rfl rfl rfl (Nat.le_of_ble_eq_true rfl) ?_ | refine R.stPB Tryd.sizeOf30 (GOk.no rfl) rfl rfl rfl rfl rfl ?_ | refine R.stB Tryd.sizeOf30 (GOk.no rfl) rfl rfl rfl rfl (Nat.le_of_ble_eq_true rfl) ?_
    refine Run.nil ⟨by kernel_rfl, ?_⟩
    refine J.ret ?_
    exact FinQ.of ⟨⟨_, _, rfl, Tryd.isAgg30, Tryd.sizeOf30, Or.inl ⟨_, svA (by rw [show w = 4 from by omega]; exact (ofCells_end _).symm), rfl, rfl⟩⟩, trivial⟩ trivial
theorem con_10 (a z : Nat) (ha : a < 256) (hz : z < 256) : Con Tryd.prog 10 [s8 a, s8 z] [] [.pag (encC (clsRow a z))] [] [] := by
  refine con_of_J [] Tryd.func10 rfl rfl Tryd.ntmps10 rfl (Nat.le_of_ble_eq_true rfl) rfl rfl ?_
  refine J.seq ?_
  refine J.region ?_
  refine R.alloc _ (GOk.no rfl) rfl _ Tryd.zeroValue30 rfl rfl ?_
  refine Run.nil ⟨by kernel_rfl, ?_⟩
  refine J.seq ?_
  refine J.region ?_
  refine R.mkSlice (bt := 1) Tryd.underlying43 Tryd.sizeOf4 Tryd.typeInfo4 rfl Tryd.zeroValue4 rfl rfl rfl rfl (GOk.no rfl) rfl rfl rfl (by omega) (by omega) (by omega) ?_
  refine R.assign (GOk.no rfl) rfl rfl ?_
  refine Run.nil ⟨by kernel_rfl, ?_⟩
  refine J.seq ?_
  refine J.seq ?_
  refine J.region ?_
  refine R.move (GOk.no rfl) rfl rfl ?_
  first | refine R.convI (GOk.no rfl) rfl rfl Tryd.underlying5 Tryd.underlying3 (wrap_i64 ⟨by omega, by omega⟩) ?_ | refine R.convI (GOk.no rfl) rfl rfl Tryd.underlying5 Tryd.underlying3 (by decide) ?_ | refine R.conv (GOk.no rfl) rfl rfl Tryd.underlying5 Tryd.underlying3 ?_
  refine R.assign (GOk.no rfl) rfl rfl ?_
  refine Run.nil ⟨by kernel_rfl, ?_⟩
  refine J.block ?_
  refine J.gh (Gh.weak [(6, vI ((a : Nat) : Int)), (5, vC (.hs 7 ((rowB a a).map eB).length)), (1, vU8 ((z : Nat) : Int)), (4, vC (.ptr 4 0))] [(7, some (.hot 1 ((rowB a a).map eB))), (4, some (.pbox [pU 0, pU 0, pU 0, pU 0]))] ⟨rfl, fs_eq rfl (by simp [rowB]), rfl, rfl, trivial⟩ ⟨bi_eq rfl (congrArg (AO.hot 1) (rowB_zero a)), rfl, trivial⟩) ?_
  refine J.loopG (fun (i : Nat) f b => (a ≤ i ∧ (i ≤ z + 1 ∨ i = a)) ∧ f = Facts.fn [(6, vI ((i : Nat) : Int)), (5, vC (.hs 7 ((rowB a i).map eB).length)), (1, vU8 ((z : Nat) : Int)), (4, vC (.ptr 4 0))] ∧ b = BL.fn [(7, some (.hot 1 ((rowB a i).map eB))), (4, some (.pbox [pU 0, pU 0, pU 0, pU 0]))]) (fun i => 256 - i) a ⟨by omega, rfl, rfl⟩ ?_
  rintro i f b ⟨hI, rfl, rfl⟩
  refine J.seq ?_
  refine J.seq ?_
  refine J.region ?_
  refine R.move (GOk.no rfl) rfl rfl ?_
  refine R.move (GOk.no rfl) rfl rfl ?_
  first | refine R.convI (GOk.no rfl) rfl rfl Tryd.underlying5 Tryd.underlying3 (wrap_i64 ⟨by omega, by omega⟩) ?_ | refine R.convI (GOk.no rfl) rfl rfl Tryd.underlying5 Tryd.underlying3 (by decide) ?_ | refine R.conv (GOk.no rfl) rfl rfl Tryd.underlying5 Tryd.underlying3 ?_
  refine R.leq (GOk.no rfl) rfl rfl rfl ?_
  refine Run.nil ⟨by kernel_rfl, ?_⟩
  refine J.cond rfl (fun hc1 => ?_) (fun hc1 => ?_)
  · try simp only [decide_eq_true_eq, decide_eq_false_iff_not, beq_iff_eq, beq_eq_false_iff_ne, bne_iff_ne, bne_eq_false_iff_eq, ne_eq, Bool.not_eq_true', Bool.not_eq_false', Decidable.not_not] at hc1
    refine J.skip ?_
    refine J.seq ?_
    refine J.block ?_
    refine J.region ?_
    refine R.move (GOk.no rfl) rfl rfl ?_
    refine R.move (GOk.no rfl) rfl rfl ?_
    refine R.idxHot Tryd.underlying43 Tryd.sizeOf4 (GOk.no rfl) rfl rfl rfl (by omega) (by simp [rowB]; omega) ?_
    refine R.stEl Tryd.sizeOf4 (GOk.no rfl) rfl rfl rfl rfl (get_map (by rw [rowB_len]; show i < 256; omega)) rfl (Nat.le_of_ble_eq_true rfl) ?_
    refine Run.nil ⟨by kernel_rfl, ?_⟩
    refine J.region ?_
    refine R.move (GOk.no rfl) rfl rfl ?_
    refine R.add (GOk.no rfl) rfl rfl rfl ⟨by omega, by omega⟩ ?_
    refine R.assign (GOk.no rfl) rfl rfl ?_
    refine Run.nil ⟨by kernel_rfl, ?_⟩
    exact toQ.mk (Gh.weak [(6, vI (((i + 1) : Nat) : Int)), (5, vC (.hs 7 ((rowB a (i + 1)).map eB).length)), (1, vU8 ((z : Nat) : Int)), (4, vC (.ptr 4 0))] [(7, some (.hot 1 ((rowB a (i + 1)).map eB))), (4, some (.pbox [pU 0, pU 0, pU 0, pU 0]))] ⟨rfl, fs_eq rfl (by simp [rowB]), rfl, rfl, trivial⟩ ⟨bi_eq rfl (congrArg (AO.hot 1) (rowB_set (by omega))), rfl, trivial⟩) ⟨(i + 1), ⟨by omega, rfl, rfl⟩, by omega⟩
  · try simp only [decide_eq_true_eq, decide_eq_false_iff_not, beq_iff_eq, beq_eq_false_iff_ne, bne_iff_ne, bne_eq_false_iff_eq, ne_eq, Bool.not_eq_true', Bool.not_eq_false', Decidable.not_not] at hc1
    refine J.exit ?_
    refine J.seq ?_
    refine J.gh (Gh.step ⟨[(7, 1, ((rowB a i).map eB))], [], []⟩ [(5, vL 1 ((rowB a (z + 1)).map eB)), (4, vC (.ptr 4 0))] [(4, some (.pbox [pU 0, pU 0, pU 0, pU 0]))] ⟨rfl, trivial⟩ (by kernel_rfl) ⟨⟨_, rfl, (by rw [← rowB_end hI (by omega)]; exact Or.inr (Or.inr (Or.inl ⟨_, _, _, _, rfl, rfl, rfl, rfl⟩)))⟩, ⟨_, rfl, Or.inl ⟨rfl, rfl⟩⟩, trivial⟩ ⟨⟨_, rfl, Or.inl ⟨_, rfl, Or.inl rfl, rfl⟩⟩, trivial⟩ (by kernel_rfl) (by kernel_rfl)) ?_
    refine J.region ?_
    refine R.move (GOk.no rfl) rfl rfl ?_
    refine R.call [((.tmp 19), _)] (con_16 (rowB a (z + 1)) (rowB_len _ _)) rfl (GOk.no rfl) rfl ⟨rfl, trivial⟩ ?_
    first | refine R.stP Tryd.sizeOf30 (GOk.no rfl) rfl rfl rfl rfl rfl (Nat.le_of_ble_eq_true rfl) ?_ | refine R.stPB Tryd.sizeOf30 (GOk.no rfl) rfl rfl rfl rfl rfl ?_ | refine R.stB Tryd.sizeOf30 (GOk.no rfl) rfl rfl rfl rfl (Nat.le_of_ble_eq_true rfl) ?_
    refine Run.nil ⟨by kernel_rfl, ?_⟩
    refine J.ret ?_
    exact FinQ.of ⟨⟨_, _, rfl, Tryd.isAgg30, Tryd.sizeOf30, Or.inl ⟨_, rfl, rfl, rfl⟩⟩, trivial⟩ trivial
end Go.Sc
