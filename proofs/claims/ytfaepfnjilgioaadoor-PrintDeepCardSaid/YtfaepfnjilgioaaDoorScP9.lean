/-
  PrintDeep: the walk of the law. (Printed by a program of ours.)
-/
import Derived.Test.YtfaepfnjilgioaaDoorScP8
set_option linter.all false
set_option linter.unusedSimpArgs false
set_option linter.unusedVariables false
namespace Go.Sc
open Go Go.Proofs Go.Abs
set_option maxRecDepth 4000
variable {q m : Obj}

def kd (t : Tree) : Int := (t.top 0).kind
theorem own_nn (t : Tree) : 0 ≤ t.own := by cases t <;> simp [Tree.own]
theorem text0 (t : Tree) : t.text 0 = t.base := by unfold Tree.text up; rw [if_neg (by have := own_nn t; omega)]
theorem up0 (t : Tree) : (up t.own 0 t.base).2 = t.base.2 := by unfold up; rw [if_neg (by have := own_nn t; omega)]
theorem up1 (t : Tree) : (up t.own 1 t.base).2 = t.base.2 + (if kd t = 5 then 1 else 0) := by
  cases t <;> simp [Tree.own, up, kd, Tree.top]
theorem up2 (t : Tree) : (up t.own 2 t.base).2 = t.base.2 + (if kd t = 5 ∨ kd t = 4 then 1 else 0) := by
  cases t <;> simp [Tree.own, up, kd, Tree.top]
theorem deepF (a : Tree) : ((Tree.frame a).text 0).2 = (a.text 0).2 + 1 := by rw [text0, text0]; simp only [Tree.base, up0]
theorem deepO (a b : Tree) : ((Tree.orr a b).text 0).2 = maxI (a.text 0).2 ((b.text 0).2 + (if kd b = 5 then 1 else 0)) := by rw [text0, text0, text0]; simp only [Tree.base, up0, up1]
theorem deepQ (a b : Tree) : ((Tree.seq a b).text 0).2 = maxI ((a.text 0).2 + (if kd a = 5 then 1 else 0)) ((b.text 0).2 + (if kd b = 5 ∨ kd b = 4 then 1 else 0)) := by rw [text0, text0, text0]; simp only [Tree.base, up2, up1]
theorem deepS (a : Tree) : ((Tree.star a).text 0).2 = (a.text 0).2 + (if kd a = 5 ∨ kd a = 4 then 1 else 0) := by rw [text0, text0]; simp only [Tree.base, up2]
theorem topK (t : Tree) (k : Nat) : (t.top k).kind = kd t := by cases t <;> rfl
theorem flat_last (t : Tree) : (t.flat 0)[t.size - 1]! = t.top 0 := by have := (TAt.all t).get; simpa using this

theorem con_3_yes (a b : Tree) (ha : a.ok) (hb : b.ok) (hfa : few (a.flat 0) = true) (hfb : few (b.flat 0) = true) (hTa : ∀ x ∈ a.flat 0, x.text.size ≤ 140737488355328) (hTb : ∀ x ∈ b.flat 0, x.text.size ≤ 140737488355328)
    (hga : formB (a.flat 0) = true) (hgb : formB (b.flat 0) = true) : Con Tryd.prog 3 [sD (a.flat 0), sD (b.flat 0)] (BBt q m) [sB true] (BBt q m) [] := by
  have wa := few_weight hfa
  have wb := few_weight hfb
  have pa := a.size_pos
  have pb := b.size_pos
  have za : 0 ≤ (a.text 0).2 ∧ (a.text 0).2 ≤ 50000000 := by rw [text0]; have := base_size a ha; omega
  have zb : 0 ≤ (b.text 0).2 ∧ (b.text 0).2 ≤ 50000000 := by rw [text0]; have := base_size b hb; omega
  have r1 : 0 ≤ (if kd b = 5 then (1 : Int) else 0) ∧ (if kd b = 5 then (1 : Int) else 0) ≤ 1 := by split <;> omega
  have r2 : 0 ≤ (if kd b = 5 ∨ kd b = 4 then (1 : Int) else 0) ∧ (if kd b = 5 ∨ kd b = 4 then (1 : Int) else 0) ≤ 1 := by split <;> omega
  have r3 : 0 ≤ (if kd a = 5 then (1 : Int) else 0) ∧ (if kd a = 5 then (1 : Int) else 0) ≤ 1 := by split <;> omega
  have r4 : 0 ≤ (if kd a = 5 ∨ kd a = 4 then (1 : Int) else 0) ∧ (if kd a = 5 ∨ kd a = 4 then (1 : Int) else 0) ≤ 1 := by split <;> omega
  refine con_of_J [] Tryd.func3 rfl rfl Tryd.ntmps3 rfl (Nat.le_of_ble_eq_true rfl) rfl rfl ?_
  refine J.seq ?_
  refine J.region ?_
  first | refine R.boxP rfl (GOk.no rfl) rfl rfl ?_ | refine R.boxA (GOk.no rfl) rfl rfl rfl ?_
  first | refine R.boxP rfl (GOk.no rfl) rfl rfl ?_ | refine R.boxA (GOk.no rfl) rfl rfl rfl ?_
  refine R.assign (GOk.no rfl) rfl rfl ?_
  refine Run.nil ⟨by kernel_rfl, ?_⟩
  refine J.seq ?_
  refine J.seq ?_
  refine J.region ?_
  refine R.call0 [] true (con_4) rfl (GOk.no rfl) (fun d h => by cases h; rfl) trivial ⟨rfl, rfl, trivial⟩ rfl (fun _ => ⟨rfl, rfl, trivial⟩) ?_
  refine R.not (GOk.no rfl) rfl rfl ?_
  refine R.move (GOk.no rfl) rfl rfl ?_
  first | refine R.ldPA Tryd.isAgg24 Tryd.sizeOf24 (GOk.of rfl rfl rfl _ rfl) rfl rfl rfl (Nat.le_of_ble_eq_true rfl) ?_ | refine R.ldAtA Tryd.isAgg24 Tryd.sizeOf24 (GOk.of rfl rfl rfl _ rfl) rfl rfl (Nat.le_of_ble_eq_true rfl) ?_ | refine R.ldBA Tryd.isAgg24 Tryd.sizeOf24 (GOk.of rfl rfl rfl _ rfl) rfl rfl rfl (Nat.le_of_ble_eq_true rfl) ?_ | refine R.ldElMA Tryd.isAgg24 Tryd.sizeOf24 (GOk.of rfl rfl rfl _ rfl) rfl rfl rfl (by omega) (Nat.le_of_ble_eq_true rfl) ?_
  refine R.call [((.tmp 16), _)] (con_5 (a.flat 0) (by rw [Tree.flat_len]; omega) hTa) rfl (GOk.of rfl rfl rfl _ rfl) rfl ⟨rfl, trivial⟩ ?_
  refine R.spell 17 rfl (show _ = vB true from vB_eq hfa) ?_
  refine R.not (GOk.of rfl rfl rfl _ rfl) rfl rfl ?_
  first | refine R.pickT (GOk.no rfl) rfl rfl rfl ?_ | refine R.pickF (GOk.no rfl) rfl rfl rfl ?_
  refine R.move (GOk.no rfl) rfl rfl ?_
  first | refine R.ldPA Tryd.isAgg24 Tryd.sizeOf24 (GOk.of rfl rfl rfl _ rfl) rfl rfl rfl (Nat.le_of_ble_eq_true rfl) ?_ | refine R.ldAtA Tryd.isAgg24 Tryd.sizeOf24 (GOk.of rfl rfl rfl _ rfl) rfl rfl (Nat.le_of_ble_eq_true rfl) ?_ | refine R.ldBA Tryd.isAgg24 Tryd.sizeOf24 (GOk.of rfl rfl rfl _ rfl) rfl rfl rfl (Nat.le_of_ble_eq_true rfl) ?_ | refine R.ldElMA Tryd.isAgg24 Tryd.sizeOf24 (GOk.of rfl rfl rfl _ rfl) rfl rfl rfl (by omega) (Nat.le_of_ble_eq_true rfl) ?_
  refine R.call [((.tmp 21), _)] (con_5 (b.flat 0) (by rw [Tree.flat_len]; omega) hTb) rfl (GOk.of rfl rfl rfl _ rfl) rfl ⟨rfl, trivial⟩ ?_
  refine R.spell 22 rfl (show _ = vB true from vB_eq hfb) ?_
  refine R.not (GOk.of rfl rfl rfl _ rfl) rfl rfl ?_
  first | refine R.pickT (GOk.no rfl) rfl rfl rfl ?_ | refine R.pickF (GOk.no rfl) rfl rfl rfl ?_
  refine R.move (GOk.no rfl) rfl rfl ?_
  first | refine R.ldPA Tryd.isAgg24 Tryd.sizeOf24 (GOk.of rfl rfl rfl _ rfl) rfl rfl rfl (Nat.le_of_ble_eq_true rfl) ?_ | refine R.ldAtA Tryd.isAgg24 Tryd.sizeOf24 (GOk.of rfl rfl rfl _ rfl) rfl rfl (Nat.le_of_ble_eq_true rfl) ?_ | refine R.ldBA Tryd.isAgg24 Tryd.sizeOf24 (GOk.of rfl rfl rfl _ rfl) rfl rfl rfl (Nat.le_of_ble_eq_true rfl) ?_ | refine R.ldElMA Tryd.isAgg24 Tryd.sizeOf24 (GOk.of rfl rfl rfl _ rfl) rfl rfl rfl (by omega) (Nat.le_of_ble_eq_true rfl) ?_
  refine R.call [((.tmp 26), _)] (con_6 (a.flat 0) (by rw [Tree.flat_len]; omega) hTa) rfl (GOk.of rfl rfl rfl _ rfl) rfl ⟨rfl, trivial⟩ ?_
  refine R.spell 27 rfl (show _ = vB true from vB_eq hga) ?_
  refine R.not (GOk.of rfl rfl rfl _ rfl) rfl rfl ?_
  first | refine R.pickT (GOk.no rfl) rfl rfl rfl ?_ | refine R.pickF (GOk.no rfl) rfl rfl rfl ?_
  refine R.move (GOk.no rfl) rfl rfl ?_
  first | refine R.ldPA Tryd.isAgg24 Tryd.sizeOf24 (GOk.of rfl rfl rfl _ rfl) rfl rfl rfl (Nat.le_of_ble_eq_true rfl) ?_ | refine R.ldAtA Tryd.isAgg24 Tryd.sizeOf24 (GOk.of rfl rfl rfl _ rfl) rfl rfl (Nat.le_of_ble_eq_true rfl) ?_ | refine R.ldBA Tryd.isAgg24 Tryd.sizeOf24 (GOk.of rfl rfl rfl _ rfl) rfl rfl rfl (Nat.le_of_ble_eq_true rfl) ?_ | refine R.ldElMA Tryd.isAgg24 Tryd.sizeOf24 (GOk.of rfl rfl rfl _ rfl) rfl rfl rfl (by omega) (Nat.le_of_ble_eq_true rfl) ?_
  refine R.call [((.tmp 31), _)] (con_6 (b.flat 0) (by rw [Tree.flat_len]; omega) hTb) rfl (GOk.of rfl rfl rfl _ rfl) rfl ⟨rfl, trivial⟩ ?_
  refine R.spell 32 rfl (show _ = vB true from vB_eq hgb) ?_
  refine R.not (GOk.of rfl rfl rfl _ rfl) rfl rfl ?_
  first | refine R.pickT (GOk.no rfl) rfl rfl rfl ?_ | refine R.pickF (GOk.no rfl) rfl rfl rfl ?_
  refine Run.nil ⟨by kernel_rfl, ?_⟩
  refine J.condF rfl ?_
  refine J.skip ?_
  refine J.seq ?_
  refine J.region ?_
  first | refine R.ldPA Tryd.isAgg24 Tryd.sizeOf24 (GOk.no rfl) rfl rfl rfl (Nat.le_of_ble_eq_true rfl) ?_ | refine R.ldAtA Tryd.isAgg24 Tryd.sizeOf24 (GOk.no rfl) rfl rfl (Nat.le_of_ble_eq_true rfl) ?_ | refine R.ldBA Tryd.isAgg24 Tryd.sizeOf24 (GOk.no rfl) rfl rfl rfl (Nat.le_of_ble_eq_true rfl) ?_ | refine R.ldElMA Tryd.isAgg24 Tryd.sizeOf24 (GOk.no rfl) rfl rfl rfl (by omega) (Nat.le_of_ble_eq_true rfl) ?_
  refine R.call0 [((.tmp 36), _)] true (con7T a ha (by omega) (by omega)) rfl (GOk.no rfl) (fun d h => by cases h; rfl) ⟨rfl, trivial⟩ ⟨rfl, rfl, trivial⟩ rfl (fun _ => ⟨rfl, rfl, trivial⟩) ?_
  refine R.assign (GOk.no rfl) rfl rfl ?_
  refine Run.nil ⟨by kernel_rfl, ?_⟩
  refine J.seq ?_
  refine J.region ?_
  first | refine R.ldPA Tryd.isAgg24 Tryd.sizeOf24 (GOk.no rfl) rfl rfl rfl (Nat.le_of_ble_eq_true rfl) ?_ | refine R.ldAtA Tryd.isAgg24 Tryd.sizeOf24 (GOk.no rfl) rfl rfl (Nat.le_of_ble_eq_true rfl) ?_ | refine R.ldBA Tryd.isAgg24 Tryd.sizeOf24 (GOk.no rfl) rfl rfl rfl (Nat.le_of_ble_eq_true rfl) ?_ | refine R.ldElMA Tryd.isAgg24 Tryd.sizeOf24 (GOk.no rfl) rfl rfl rfl (by omega) (Nat.le_of_ble_eq_true rfl) ?_
  refine R.call0 [((.tmp 38), _)] true (con7T b hb (by omega) (by omega)) rfl (GOk.no rfl) (fun d h => by cases h; rfl) ⟨rfl, trivial⟩ ⟨rfl, rfl, trivial⟩ rfl (fun _ => ⟨rfl, rfl, trivial⟩) ?_
  refine R.assign (GOk.no rfl) rfl rfl ?_
  refine Run.nil ⟨by kernel_rfl, ?_⟩
  refine J.seq ?_
  refine J.region ?_
  first | refine R.fldPtr Tryd.underlying24 rfl Tryd.sizeOf22 rfl (GOk.no rfl) rfl rfl ?_ | refine R.fldAt Tryd.underlying24 rfl Tryd.sizeOf22 rfl (GOk.no rfl) rfl rfl ?_ | refine R.fldEl Tryd.underlying24 rfl Tryd.sizeOf22 rfl (GOk.no rfl) rfl rfl ?_
  first | refine R.ldP1 Tryd.isAgg22 (GOk.no rfl) rfl rfl rfl rfl ?_ | refine R.ldAt1 Tryd.isAgg22 (GOk.no rfl) rfl rfl rfl ?_ | refine R.ldB1 Tryd.isAgg22 (GOk.no rfl) rfl rfl rfl rfl ?_ | refine R.ldElM1 Tryd.isAgg22 (GOk.no rfl) rfl rfl rfl (by omega) rfl ?_
  first | refine R.fldPtr Tryd.underlying24 rfl Tryd.sizeOf22 rfl (GOk.no rfl) rfl rfl ?_ | refine R.fldAt Tryd.underlying24 rfl Tryd.sizeOf22 rfl (GOk.no rfl) rfl rfl ?_ | refine R.fldEl Tryd.underlying24 rfl Tryd.sizeOf22 rfl (GOk.no rfl) rfl rfl ?_
  first | refine R.ldP1 Tryd.isAgg22 (GOk.no rfl) rfl rfl rfl rfl ?_ | refine R.ldAt1 Tryd.isAgg22 (GOk.no rfl) rfl rfl rfl ?_ | refine R.ldB1 Tryd.isAgg22 (GOk.no rfl) rfl rfl rfl rfl ?_ | refine R.ldElM1 Tryd.isAgg22 (GOk.no rfl) rfl rfl rfl (by omega) rfl ?_
  refine R.lenL Tryd.underlying22 (GOk.no rfl) rfl rfl ?_
  refine R.spell 44 rfl (show _ = vI (a.size : Int) from vI_eq (by rw [List.length_map, Tree.flat_len])) ?_
  refine R.sub (GOk.no rfl) rfl rfl rfl ⟨by omega, by omega⟩ ?_
  refine R.idxM (l := a.flat 0) (enc := encN) Tryd.underlying22 Tryd.sizeOf32 (GOk.no rfl) rfl rfl rfl (by omega) (by rw [Tree.flat_len]; omega) ?_
  refine R.spell 46 rfl (show _ = vC (.at_ (encN (a.top 0))) from by rw [show (((a.size : Int) - 1).toNat) = a.size - 1 from by omega, flat_last]) ?_
  first | refine R.fldPtr Tryd.underlying32 rfl Tryd.sizeOf3 rfl (GOk.no rfl) rfl rfl ?_ | refine R.fldAt Tryd.underlying32 rfl Tryd.sizeOf3 rfl (GOk.no rfl) rfl rfl ?_ | refine R.fldEl Tryd.underlying32 rfl Tryd.sizeOf3 rfl (GOk.no rfl) rfl rfl ?_
  refine R.ldAt1 Tryd.isAgg3 (GOk.no rfl) rfl rfl rfl ?_
  refine R.spell 48 rfl (show _ = vI (kd a) from rfl) ?_
  refine R.assign (GOk.no rfl) rfl rfl ?_
  refine Run.nil ⟨by kernel_rfl, ?_⟩
  refine J.seq ?_
  refine J.region ?_
  first | refine R.fldPtr Tryd.underlying24 rfl Tryd.sizeOf22 rfl (GOk.no rfl) rfl rfl ?_ | refine R.fldAt Tryd.underlying24 rfl Tryd.sizeOf22 rfl (GOk.no rfl) rfl rfl ?_ | refine R.fldEl Tryd.underlying24 rfl Tryd.sizeOf22 rfl (GOk.no rfl) rfl rfl ?_
  first | refine R.ldP1 Tryd.isAgg22 (GOk.no rfl) rfl rfl rfl rfl ?_ | refine R.ldAt1 Tryd.isAgg22 (GOk.no rfl) rfl rfl rfl ?_ | refine R.ldB1 Tryd.isAgg22 (GOk.no rfl) rfl rfl rfl rfl ?_ | refine R.ldElM1 Tryd.isAgg22 (GOk.no rfl) rfl rfl rfl (by omega) rfl ?_
  first | refine R.fldPtr Tryd.underlying24 rfl Tryd.sizeOf22 rfl (GOk.no rfl) rfl rfl ?_ | refine R.fldAt Tryd.underlying24 rfl Tryd.sizeOf22 rfl (GOk.no rfl) rfl rfl ?_ | refine R.fldEl Tryd.underlying24 rfl Tryd.sizeOf22 rfl (GOk.no rfl) rfl rfl ?_
  first | refine R.ldP1 Tryd.isAgg22 (GOk.no rfl) rfl rfl rfl rfl ?_ | refine R.ldAt1 Tryd.isAgg22 (GOk.no rfl) rfl rfl rfl ?_ | refine R.ldB1 Tryd.isAgg22 (GOk.no rfl) rfl rfl rfl rfl ?_ | refine R.ldElM1 Tryd.isAgg22 (GOk.no rfl) rfl rfl rfl (by omega) rfl ?_
  refine R.lenL Tryd.underlying22 (GOk.no rfl) rfl rfl ?_
  refine R.spell 53 rfl (show _ = vI (b.size : Int) from vI_eq (by rw [List.length_map, Tree.flat_len])) ?_
  refine R.sub (GOk.no rfl) rfl rfl rfl ⟨by omega, by omega⟩ ?_
  refine R.idxM (l := b.flat 0) (enc := encN) Tryd.underlying22 Tryd.sizeOf32 (GOk.no rfl) rfl rfl rfl (by omega) (by rw [Tree.flat_len]; omega) ?_
  refine R.spell 55 rfl (show _ = vC (.at_ (encN (b.top 0))) from by rw [show (((b.size : Int) - 1).toNat) = b.size - 1 from by omega, flat_last]) ?_
  first | refine R.fldPtr Tryd.underlying32 rfl Tryd.sizeOf3 rfl (GOk.no rfl) rfl rfl ?_ | refine R.fldAt Tryd.underlying32 rfl Tryd.sizeOf3 rfl (GOk.no rfl) rfl rfl ?_ | refine R.fldEl Tryd.underlying32 rfl Tryd.sizeOf3 rfl (GOk.no rfl) rfl rfl ?_
  refine R.ldAt1 Tryd.isAgg3 (GOk.no rfl) rfl rfl rfl ?_
  refine R.spell 57 rfl (show _ = vI (kd b) from rfl) ?_
  refine R.assign (GOk.no rfl) rfl rfl ?_
  refine Run.nil ⟨by kernel_rfl, ?_⟩
  refine J.seq ?_
  refine J.region ?_
  refine R.assign (GOk.no rfl) rfl rfl ?_
  refine Run.nil ⟨by kernel_rfl, ?_⟩
  refine J.joinF [(2, vC (.ptr 2 0)), (3, vC (.ptr 3 0)), (5, vI (a.text 0).2), (6, vI (b.text 0).2), (7, vI (kd a)), (8, vI (kd b)), (9, vI (if kd a = 5 then (1 : Int) else 0))] [(2, some (.pbox [pN (a.flat 0)])), (3, some (.pbox [pN (b.flat 0)])), (2000, some (lvO m)), (2002, some (pow10 q))] ?_ ?_
  ·  -- behind c59
    refine J.seq ?_
    refine J.region ?_
    refine R.assign (GOk.no rfl) rfl rfl ?_
    refine Run.nil ⟨by kernel_rfl, ?_⟩
    refine J.joinF [(2, vC (.ptr 2 0)), (3, vC (.ptr 3 0)), (5, vI (a.text 0).2), (6, vI (b.text 0).2), (7, vI (kd a)), (8, vI (kd b)), (9, vI (if kd a = 5 then (1 : Int) else 0)), (10, vI (if kd b = 5 ∨ kd b = 4 then (1 : Int) else 0))] [(2, some (.pbox [pN (a.flat 0)])), (3, some (.pbox [pN (b.flat 0)])), (2000, some (lvO m)), (2002, some (pow10 q))] ?_ ?_
    ·  -- behind c65
      refine J.seq ?_
      refine J.region ?_
      refine R.assign (GOk.no rfl) rfl rfl ?_
      refine Run.nil ⟨by kernel_rfl, ?_⟩
      refine J.joinF [(2, vC (.ptr 2 0)), (3, vC (.ptr 3 0)), (5, vI (a.text 0).2), (6, vI (b.text 0).2), (7, vI (kd a)), (8, vI (kd b)), (9, vI (if kd a = 5 then (1 : Int) else 0)), (10, vI (if kd b = 5 ∨ kd b = 4 then (1 : Int) else 0)), (11, vI (if kd b = 5 then (1 : Int) else 0))] [(2, some (.pbox [pN (a.flat 0)])), (3, some (.pbox [pN (b.flat 0)])), (2000, some (lvO m)), (2002, some (pow10 q))] ?_ ?_
      ·  -- behind c67
        refine J.seq ?_
        refine J.region ?_
        refine R.assign (GOk.no rfl) rfl rfl ?_
        refine Run.nil ⟨by kernel_rfl, ?_⟩
        refine J.joinF [(2, vC (.ptr 2 0)), (3, vC (.ptr 3 0)), (5, vI (a.text 0).2), (6, vI (b.text 0).2), (7, vI (kd a)), (8, vI (kd b)), (9, vI (if kd a = 5 then (1 : Int) else 0)), (10, vI (if kd b = 5 ∨ kd b = 4 then (1 : Int) else 0)), (11, vI (if kd b = 5 then (1 : Int) else 0)), (12, vI (if kd a = 5 ∨ kd a = 4 then (1 : Int) else 0))] [(2, some (.pbox [pN (a.flat 0)])), (3, some (.pbox [pN (b.flat 0)])), (2000, some (lvO m)), (2002, some (pow10 q))] ?_ ?_
        ·  -- behind c73
          refine J.seq ?_
          refine J.region ?_
          first | refine R.ldPA Tryd.isAgg24 Tryd.sizeOf24 (GOk.no rfl) rfl rfl rfl (Nat.le_of_ble_eq_true rfl) ?_ | refine R.ldAtA Tryd.isAgg24 Tryd.sizeOf24 (GOk.no rfl) rfl rfl (Nat.le_of_ble_eq_true rfl) ?_ | refine R.ldBA Tryd.isAgg24 Tryd.sizeOf24 (GOk.no rfl) rfl rfl rfl (Nat.le_of_ble_eq_true rfl) ?_ | refine R.ldElMA Tryd.isAgg24 Tryd.sizeOf24 (GOk.no rfl) rfl rfl rfl (by omega) (Nat.le_of_ble_eq_true rfl) ?_
          refine R.call [((.const _), _), ((.const _), _), ((.const _), _), ((.tmp 74), _)] (con8F a (by omega)) rfl (GOk.no rfl) rfl ⟨rfl, rfl, rfl, rfl, trivial⟩ ?_
          refine R.call0 [((.tmp 75), _)] true (con7T (.frame a) (by simp only [Tree.ok]; first | exact ha | exact ⟨ha, hb⟩) (by simp only [Tree.weight]; omega) (by simp only [Tree.size]; omega)) rfl (GOk.no rfl) (fun d h => by cases h; rfl) ⟨rfl, trivial⟩ ⟨rfl, rfl, trivial⟩ rfl (fun _ => ⟨rfl, rfl, trivial⟩) ?_
          refine R.move (GOk.no rfl) rfl rfl ?_
          refine R.add (GOk.no rfl) rfl rfl rfl ⟨by first | omega | (split <;> omega), by first | omega | (split <;> omega)⟩ ?_
          refine R.eql (GOk.no rfl) rfl rfl rfl ?_
          refine R.spell 79 rfl (show _ = vB true from vB_eq (by rw [deepF]; simp)) ?_
          refine R.move (GOk.no rfl) rfl rfl ?_
          first | refine R.ldPA Tryd.isAgg24 Tryd.sizeOf24 (GOk.of rfl rfl rfl _ rfl) rfl rfl rfl (Nat.le_of_ble_eq_true rfl) ?_ | refine R.ldAtA Tryd.isAgg24 Tryd.sizeOf24 (GOk.of rfl rfl rfl _ rfl) rfl rfl (Nat.le_of_ble_eq_true rfl) ?_ | refine R.ldBA Tryd.isAgg24 Tryd.sizeOf24 (GOk.of rfl rfl rfl _ rfl) rfl rfl rfl (Nat.le_of_ble_eq_true rfl) ?_ | refine R.ldElMA Tryd.isAgg24 Tryd.sizeOf24 (GOk.of rfl rfl rfl _ rfl) rfl rfl rfl (by omega) (Nat.le_of_ble_eq_true rfl) ?_
          first | refine R.ldPA Tryd.isAgg24 Tryd.sizeOf24 (GOk.of rfl rfl rfl _ rfl) rfl rfl rfl (Nat.le_of_ble_eq_true rfl) ?_ | refine R.ldAtA Tryd.isAgg24 Tryd.sizeOf24 (GOk.of rfl rfl rfl _ rfl) rfl rfl (Nat.le_of_ble_eq_true rfl) ?_ | refine R.ldBA Tryd.isAgg24 Tryd.sizeOf24 (GOk.of rfl rfl rfl _ rfl) rfl rfl rfl (Nat.le_of_ble_eq_true rfl) ?_ | refine R.ldElMA Tryd.isAgg24 Tryd.sizeOf24 (GOk.of rfl rfl rfl _ rfl) rfl rfl rfl (by omega) (Nat.le_of_ble_eq_true rfl) ?_
          refine R.call [((.const _), _), ((.tmp 81), _), ((.tmp 82), _)] (con9O a b (by omega) (by omega)) rfl (GOk.of rfl rfl rfl _ rfl) rfl ⟨rfl, rfl, rfl, trivial⟩ ?_
          refine R.call0 [((.tmp 83), _)] true (con7T (.orr a b) (by simp only [Tree.ok]; first | exact ha | exact ⟨ha, hb⟩) (by simp only [Tree.weight]; omega) (by simp only [Tree.size]; omega)) rfl (GOk.of rfl rfl rfl _ rfl) (fun d h => by cases h; rfl) ⟨rfl, trivial⟩ ⟨rfl, rfl, trivial⟩ rfl (fun _ => ⟨rfl, rfl, trivial⟩) ?_
          refine R.move (GOk.of rfl rfl rfl _ rfl) rfl rfl ?_
          refine R.move (GOk.of rfl rfl rfl _ rfl) rfl rfl ?_
          refine R.move (GOk.of rfl rfl rfl _ rfl) rfl rfl ?_
          refine R.add (GOk.of rfl rfl rfl _ rfl) rfl rfl rfl ⟨by first | omega | (split <;> omega), by first | omega | (split <;> omega)⟩ ?_
          refine R.maxI (GOk.of rfl rfl rfl _ rfl) rfl rfl rfl ?_
          refine R.eql (GOk.of rfl rfl rfl _ rfl) rfl rfl rfl ?_
          refine R.spell 90 rfl (show _ = vB true from vB_eq (by rw [deepO]; simp [maxI])) ?_
          first | refine R.pickT (GOk.no rfl) rfl rfl rfl ?_ | refine R.pickF (GOk.no rfl) rfl rfl rfl ?_
          refine R.move (GOk.no rfl) rfl rfl ?_
          first | refine R.ldPA Tryd.isAgg24 Tryd.sizeOf24 (GOk.of rfl rfl rfl _ rfl) rfl rfl rfl (Nat.le_of_ble_eq_true rfl) ?_ | refine R.ldAtA Tryd.isAgg24 Tryd.sizeOf24 (GOk.of rfl rfl rfl _ rfl) rfl rfl (Nat.le_of_ble_eq_true rfl) ?_ | refine R.ldBA Tryd.isAgg24 Tryd.sizeOf24 (GOk.of rfl rfl rfl _ rfl) rfl rfl rfl (Nat.le_of_ble_eq_true rfl) ?_ | refine R.ldElMA Tryd.isAgg24 Tryd.sizeOf24 (GOk.of rfl rfl rfl _ rfl) rfl rfl rfl (by omega) (Nat.le_of_ble_eq_true rfl) ?_
          first | refine R.ldPA Tryd.isAgg24 Tryd.sizeOf24 (GOk.of rfl rfl rfl _ rfl) rfl rfl rfl (Nat.le_of_ble_eq_true rfl) ?_ | refine R.ldAtA Tryd.isAgg24 Tryd.sizeOf24 (GOk.of rfl rfl rfl _ rfl) rfl rfl (Nat.le_of_ble_eq_true rfl) ?_ | refine R.ldBA Tryd.isAgg24 Tryd.sizeOf24 (GOk.of rfl rfl rfl _ rfl) rfl rfl rfl (Nat.le_of_ble_eq_true rfl) ?_ | refine R.ldElMA Tryd.isAgg24 Tryd.sizeOf24 (GOk.of rfl rfl rfl _ rfl) rfl rfl rfl (by omega) (Nat.le_of_ble_eq_true rfl) ?_
          refine R.call [((.const _), _), ((.tmp 93), _), ((.tmp 94), _)] (con9S a b (by omega) (by omega)) rfl (GOk.of rfl rfl rfl _ rfl) rfl ⟨rfl, rfl, rfl, trivial⟩ ?_
          refine R.call0 [((.tmp 95), _)] true (con7T (.seq a b) (by simp only [Tree.ok]; first | exact ha | exact ⟨ha, hb⟩) (by simp only [Tree.weight]; omega) (by simp only [Tree.size]; omega)) rfl (GOk.of rfl rfl rfl _ rfl) (fun d h => by cases h; rfl) ⟨rfl, trivial⟩ ⟨rfl, rfl, trivial⟩ rfl (fun _ => ⟨rfl, rfl, trivial⟩) ?_
          refine R.move (GOk.of rfl rfl rfl _ rfl) rfl rfl ?_
          refine R.move (GOk.of rfl rfl rfl _ rfl) rfl rfl ?_
          refine R.add (GOk.of rfl rfl rfl _ rfl) rfl rfl rfl ⟨by first | omega | (split <;> omega), by first | omega | (split <;> omega)⟩ ?_
          refine R.move (GOk.of rfl rfl rfl _ rfl) rfl rfl ?_
          refine R.move (GOk.of rfl rfl rfl _ rfl) rfl rfl ?_
          refine R.add (GOk.of rfl rfl rfl _ rfl) rfl rfl rfl ⟨by first | omega | (split <;> omega), by first | omega | (split <;> omega)⟩ ?_
          refine R.maxI (GOk.of rfl rfl rfl _ rfl) rfl rfl rfl ?_
          refine R.eql (GOk.of rfl rfl rfl _ rfl) rfl rfl rfl ?_
          refine R.spell 104 rfl (show _ = vB true from vB_eq (by rw [deepQ]; simp [maxI])) ?_
          first | refine R.pickT (GOk.no rfl) rfl rfl rfl ?_ | refine R.pickF (GOk.no rfl) rfl rfl rfl ?_
          refine R.move (GOk.no rfl) rfl rfl ?_
          first | refine R.ldPA Tryd.isAgg24 Tryd.sizeOf24 (GOk.of rfl rfl rfl _ rfl) rfl rfl rfl (Nat.le_of_ble_eq_true rfl) ?_ | refine R.ldAtA Tryd.isAgg24 Tryd.sizeOf24 (GOk.of rfl rfl rfl _ rfl) rfl rfl (Nat.le_of_ble_eq_true rfl) ?_ | refine R.ldBA Tryd.isAgg24 Tryd.sizeOf24 (GOk.of rfl rfl rfl _ rfl) rfl rfl rfl (Nat.le_of_ble_eq_true rfl) ?_ | refine R.ldElMA Tryd.isAgg24 Tryd.sizeOf24 (GOk.of rfl rfl rfl _ rfl) rfl rfl rfl (by omega) (Nat.le_of_ble_eq_true rfl) ?_
          refine R.call [((.const _), _), ((.const _), _), ((.const _), _), ((.tmp 107), _)] (con8S a (by omega)) rfl (GOk.of rfl rfl rfl _ rfl) rfl ⟨rfl, rfl, rfl, rfl, trivial⟩ ?_
          refine R.call0 [((.tmp 108), _)] true (con7T (.star a) (by simp only [Tree.ok]; first | exact ha | exact ⟨ha, hb⟩) (by simp only [Tree.weight]; omega) (by simp only [Tree.size]; omega)) rfl (GOk.of rfl rfl rfl _ rfl) (fun d h => by cases h; rfl) ⟨rfl, trivial⟩ ⟨rfl, rfl, trivial⟩ rfl (fun _ => ⟨rfl, rfl, trivial⟩) ?_
          refine R.move (GOk.of rfl rfl rfl _ rfl) rfl rfl ?_
          refine R.move (GOk.of rfl rfl rfl _ rfl) rfl rfl ?_
          refine R.add (GOk.of rfl rfl rfl _ rfl) rfl rfl rfl ⟨by first | omega | (split <;> omega), by first | omega | (split <;> omega)⟩ ?_
          refine R.eql (GOk.of rfl rfl rfl _ rfl) rfl rfl rfl ?_
          refine R.spell 113 rfl (show _ = vB true from vB_eq (by rw [deepS]; simp)) ?_
          first | refine R.pickT (GOk.no rfl) rfl rfl rfl ?_ | refine R.pickF (GOk.no rfl) rfl rfl rfl ?_
          refine R.assign (GOk.no rfl) rfl rfl ?_
          refine Run.nil ⟨by kernel_rfl, ?_⟩
          refine J.ret ?_
          exact FinQ.of ⟨ret_eq rfl (rfl), trivial⟩ ⟨rfl, rfl, trivial⟩
        ·  -- c73
          refine J.seq ?_
          refine J.region ?_
          refine R.move (GOk.no rfl) rfl rfl ?_
          refine R.eql (GOk.no rfl) rfl rfl rfl ?_
          refine R.move (GOk.no rfl) rfl rfl ?_
          refine R.case 70 rfl (fun hg1 => ?_) (fun hg1 => ?_)
          · try simp only [decide_eq_true_eq, decide_eq_false_iff_not, beq_iff_eq, beq_eq_false_iff_ne, bne_iff_ne, bne_eq_false_iff_eq, ne_eq, Bool.not_eq_true', Bool.not_eq_false', Decidable.not_not, Int.toNat_natCast] at hg1
            refine R.pass (GOk.of rfl rfl rfl _ rfl) rfl ?_
            refine R.pass (GOk.of rfl rfl rfl _ rfl) rfl ?_
            first | refine R.pickT (GOk.no rfl) rfl rfl rfl ?_ | refine R.pickF (GOk.no rfl) rfl rfl rfl ?_
            refine Run.nil ⟨by kernel_rfl, ?_⟩
            refine J.condT rfl ?_
            refine J.region ?_
            refine R.assign (GOk.no rfl) rfl rfl ?_
            refine Run.nil ⟨by kernel_rfl, ?_⟩
            exact toQ.mk (Gh.weak [(2, vC (.ptr 2 0)), (3, vC (.ptr 3 0)), (5, vI (a.text 0).2), (6, vI (b.text 0).2), (7, vI (kd a)), (8, vI (kd b)), (9, vI (if kd a = 5 then (1 : Int) else 0)), (10, vI (if kd b = 5 ∨ kd b = 4 then (1 : Int) else 0)), (11, vI (if kd b = 5 then (1 : Int) else 0)), (12, vI (if kd a = 5 ∨ kd a = 4 then (1 : Int) else 0))] [(2, some (.pbox [pN (a.flat 0)])), (3, some (.pbox [pN (b.flat 0)])), (2000, some (lvO m)), (2002, some (pow10 q))] ⟨rfl, rfl, rfl, rfl, rfl, rfl, rfl, rfl, rfl, fs_eq rfl (vI_eq (by split <;> omega)), trivial⟩ ⟨rfl, rfl, rfl, rfl, trivial⟩) ⟨rfl, rfl⟩
          · try simp only [decide_eq_true_eq, decide_eq_false_iff_not, beq_iff_eq, beq_eq_false_iff_ne, bne_iff_ne, bne_eq_false_iff_eq, ne_eq, Bool.not_eq_true', Bool.not_eq_false', Decidable.not_not, Int.toNat_natCast] at hg1
            refine R.move (GOk.of rfl rfl rfl _ rfl) rfl rfl ?_
            refine R.eql (GOk.of rfl rfl rfl _ rfl) rfl rfl rfl ?_
            first | refine R.pickT (GOk.no rfl) rfl rfl rfl ?_ | refine R.pickF (GOk.no rfl) rfl rfl rfl ?_
            refine Run.nil ⟨by kernel_rfl, ?_⟩
            refine J.cond rfl (fun hc2 => ?_) (fun hc2 => ?_)
            · try simp only [decide_eq_true_eq, decide_eq_false_iff_not, beq_iff_eq, beq_eq_false_iff_ne, bne_iff_ne, bne_eq_false_iff_eq, ne_eq, Bool.not_eq_true', Bool.not_eq_false', Decidable.not_not, Int.toNat_natCast] at hc2
              refine J.region ?_
              refine R.assign (GOk.no rfl) rfl rfl ?_
              refine Run.nil ⟨by kernel_rfl, ?_⟩
              exact toQ.mk (Gh.weak [(2, vC (.ptr 2 0)), (3, vC (.ptr 3 0)), (5, vI (a.text 0).2), (6, vI (b.text 0).2), (7, vI (kd a)), (8, vI (kd b)), (9, vI (if kd a = 5 then (1 : Int) else 0)), (10, vI (if kd b = 5 ∨ kd b = 4 then (1 : Int) else 0)), (11, vI (if kd b = 5 then (1 : Int) else 0)), (12, vI (if kd a = 5 ∨ kd a = 4 then (1 : Int) else 0))] [(2, some (.pbox [pN (a.flat 0)])), (3, some (.pbox [pN (b.flat 0)])), (2000, some (lvO m)), (2002, some (pow10 q))] ⟨rfl, rfl, rfl, rfl, rfl, rfl, rfl, rfl, rfl, fs_eq rfl (vI_eq (by split <;> omega)), trivial⟩ ⟨rfl, rfl, rfl, rfl, trivial⟩) ⟨rfl, rfl⟩
            · try simp only [decide_eq_true_eq, decide_eq_false_iff_not, beq_iff_eq, beq_eq_false_iff_ne, bne_iff_ne, bne_eq_false_iff_eq, ne_eq, Bool.not_eq_true', Bool.not_eq_false', Decidable.not_not, Int.toNat_natCast] at hc2
              refine J.skip ?_
              exact toQ.mk (Gh.weak [(2, vC (.ptr 2 0)), (3, vC (.ptr 3 0)), (5, vI (a.text 0).2), (6, vI (b.text 0).2), (7, vI (kd a)), (8, vI (kd b)), (9, vI (if kd a = 5 then (1 : Int) else 0)), (10, vI (if kd b = 5 ∨ kd b = 4 then (1 : Int) else 0)), (11, vI (if kd b = 5 then (1 : Int) else 0)), (12, vI (if kd a = 5 ∨ kd a = 4 then (1 : Int) else 0))] [(2, some (.pbox [pN (a.flat 0)])), (3, some (.pbox [pN (b.flat 0)])), (2000, some (lvO m)), (2002, some (pow10 q))] ⟨rfl, rfl, rfl, rfl, rfl, rfl, rfl, rfl, rfl, fs_eq rfl (vI_eq (by split <;> omega)), trivial⟩ ⟨rfl, rfl, rfl, rfl, trivial⟩) ⟨rfl, rfl⟩
      ·  -- c67
        refine J.seq ?_
        refine J.region ?_
        refine R.move (GOk.no rfl) rfl rfl ?_
        refine R.eql (GOk.no rfl) rfl rfl rfl ?_
        refine Run.nil ⟨by kernel_rfl, ?_⟩
        refine J.cond rfl (fun hc3 => ?_) (fun hc3 => ?_)
        · try simp only [decide_eq_true_eq, decide_eq_false_iff_not, beq_iff_eq, beq_eq_false_iff_ne, bne_iff_ne, bne_eq_false_iff_eq, ne_eq, Bool.not_eq_true', Bool.not_eq_false', Decidable.not_not, Int.toNat_natCast] at hc3
          refine J.region ?_
          refine R.assign (GOk.no rfl) rfl rfl ?_
          refine Run.nil ⟨by kernel_rfl, ?_⟩
          exact toQ.mk (Gh.weak [(2, vC (.ptr 2 0)), (3, vC (.ptr 3 0)), (5, vI (a.text 0).2), (6, vI (b.text 0).2), (7, vI (kd a)), (8, vI (kd b)), (9, vI (if kd a = 5 then (1 : Int) else 0)), (10, vI (if kd b = 5 ∨ kd b = 4 then (1 : Int) else 0)), (11, vI (if kd b = 5 then (1 : Int) else 0))] [(2, some (.pbox [pN (a.flat 0)])), (3, some (.pbox [pN (b.flat 0)])), (2000, some (lvO m)), (2002, some (pow10 q))] ⟨rfl, rfl, rfl, rfl, rfl, rfl, rfl, rfl, fs_eq rfl (vI_eq (by split <;> omega)), trivial⟩ ⟨rfl, rfl, rfl, rfl, trivial⟩) ⟨rfl, rfl⟩
        · try simp only [decide_eq_true_eq, decide_eq_false_iff_not, beq_iff_eq, beq_eq_false_iff_ne, bne_iff_ne, bne_eq_false_iff_eq, ne_eq, Bool.not_eq_true', Bool.not_eq_false', Decidable.not_not, Int.toNat_natCast] at hc3
          refine J.skip ?_
          exact toQ.mk (Gh.weak [(2, vC (.ptr 2 0)), (3, vC (.ptr 3 0)), (5, vI (a.text 0).2), (6, vI (b.text 0).2), (7, vI (kd a)), (8, vI (kd b)), (9, vI (if kd a = 5 then (1 : Int) else 0)), (10, vI (if kd b = 5 ∨ kd b = 4 then (1 : Int) else 0)), (11, vI (if kd b = 5 then (1 : Int) else 0))] [(2, some (.pbox [pN (a.flat 0)])), (3, some (.pbox [pN (b.flat 0)])), (2000, some (lvO m)), (2002, some (pow10 q))] ⟨rfl, rfl, rfl, rfl, rfl, rfl, rfl, rfl, fs_eq rfl (vI_eq (by split <;> omega)), trivial⟩ ⟨rfl, rfl, rfl, rfl, trivial⟩) ⟨rfl, rfl⟩
    ·  -- c65
      refine J.seq ?_
      refine J.region ?_
      refine R.move (GOk.no rfl) rfl rfl ?_
      refine R.eql (GOk.no rfl) rfl rfl rfl ?_
      refine R.move (GOk.no rfl) rfl rfl ?_
      refine R.case 62 rfl (fun hg4 => ?_) (fun hg4 => ?_)
      · try simp only [decide_eq_true_eq, decide_eq_false_iff_not, beq_iff_eq, beq_eq_false_iff_ne, bne_iff_ne, bne_eq_false_iff_eq, ne_eq, Bool.not_eq_true', Bool.not_eq_false', Decidable.not_not, Int.toNat_natCast] at hg4
        refine R.pass (GOk.of rfl rfl rfl _ rfl) rfl ?_
        refine R.pass (GOk.of rfl rfl rfl _ rfl) rfl ?_
        first | refine R.pickT (GOk.no rfl) rfl rfl rfl ?_ | refine R.pickF (GOk.no rfl) rfl rfl rfl ?_
        refine Run.nil ⟨by kernel_rfl, ?_⟩
        refine J.condT rfl ?_
        refine J.region ?_
        refine R.assign (GOk.no rfl) rfl rfl ?_
        refine Run.nil ⟨by kernel_rfl, ?_⟩
        exact toQ.mk (Gh.weak [(2, vC (.ptr 2 0)), (3, vC (.ptr 3 0)), (5, vI (a.text 0).2), (6, vI (b.text 0).2), (7, vI (kd a)), (8, vI (kd b)), (9, vI (if kd a = 5 then (1 : Int) else 0)), (10, vI (if kd b = 5 ∨ kd b = 4 then (1 : Int) else 0))] [(2, some (.pbox [pN (a.flat 0)])), (3, some (.pbox [pN (b.flat 0)])), (2000, some (lvO m)), (2002, some (pow10 q))] ⟨rfl, rfl, rfl, rfl, rfl, rfl, rfl, fs_eq rfl (vI_eq (by split <;> omega)), trivial⟩ ⟨rfl, rfl, rfl, rfl, trivial⟩) ⟨rfl, rfl⟩
      · try simp only [decide_eq_true_eq, decide_eq_false_iff_not, beq_iff_eq, beq_eq_false_iff_ne, bne_iff_ne, bne_eq_false_iff_eq, ne_eq, Bool.not_eq_true', Bool.not_eq_false', Decidable.not_not, Int.toNat_natCast] at hg4
        refine R.move (GOk.of rfl rfl rfl _ rfl) rfl rfl ?_
        refine R.eql (GOk.of rfl rfl rfl _ rfl) rfl rfl rfl ?_
        first | refine R.pickT (GOk.no rfl) rfl rfl rfl ?_ | refine R.pickF (GOk.no rfl) rfl rfl rfl ?_
        refine Run.nil ⟨by kernel_rfl, ?_⟩
        refine J.cond rfl (fun hc5 => ?_) (fun hc5 => ?_)
        · try simp only [decide_eq_true_eq, decide_eq_false_iff_not, beq_iff_eq, beq_eq_false_iff_ne, bne_iff_ne, bne_eq_false_iff_eq, ne_eq, Bool.not_eq_true', Bool.not_eq_false', Decidable.not_not, Int.toNat_natCast] at hc5
          refine J.region ?_
          refine R.assign (GOk.no rfl) rfl rfl ?_
          refine Run.nil ⟨by kernel_rfl, ?_⟩
          exact toQ.mk (Gh.weak [(2, vC (.ptr 2 0)), (3, vC (.ptr 3 0)), (5, vI (a.text 0).2), (6, vI (b.text 0).2), (7, vI (kd a)), (8, vI (kd b)), (9, vI (if kd a = 5 then (1 : Int) else 0)), (10, vI (if kd b = 5 ∨ kd b = 4 then (1 : Int) else 0))] [(2, some (.pbox [pN (a.flat 0)])), (3, some (.pbox [pN (b.flat 0)])), (2000, some (lvO m)), (2002, some (pow10 q))] ⟨rfl, rfl, rfl, rfl, rfl, rfl, rfl, fs_eq rfl (vI_eq (by split <;> omega)), trivial⟩ ⟨rfl, rfl, rfl, rfl, trivial⟩) ⟨rfl, rfl⟩
        · try simp only [decide_eq_true_eq, decide_eq_false_iff_not, beq_iff_eq, beq_eq_false_iff_ne, bne_iff_ne, bne_eq_false_iff_eq, ne_eq, Bool.not_eq_true', Bool.not_eq_false', Decidable.not_not, Int.toNat_natCast] at hc5
          refine J.skip ?_
          exact toQ.mk (Gh.weak [(2, vC (.ptr 2 0)), (3, vC (.ptr 3 0)), (5, vI (a.text 0).2), (6, vI (b.text 0).2), (7, vI (kd a)), (8, vI (kd b)), (9, vI (if kd a = 5 then (1 : Int) else 0)), (10, vI (if kd b = 5 ∨ kd b = 4 then (1 : Int) else 0))] [(2, some (.pbox [pN (a.flat 0)])), (3, some (.pbox [pN (b.flat 0)])), (2000, some (lvO m)), (2002, some (pow10 q))] ⟨rfl, rfl, rfl, rfl, rfl, rfl, rfl, fs_eq rfl (vI_eq (by split <;> omega)), trivial⟩ ⟨rfl, rfl, rfl, rfl, trivial⟩) ⟨rfl, rfl⟩
  ·  -- c59
    refine J.seq ?_
    refine J.region ?_
    refine R.move (GOk.no rfl) rfl rfl ?_
    refine R.eql (GOk.no rfl) rfl rfl rfl ?_
    refine Run.nil ⟨by kernel_rfl, ?_⟩
    refine J.cond rfl (fun hc6 => ?_) (fun hc6 => ?_)
    · try simp only [decide_eq_true_eq, decide_eq_false_iff_not, beq_iff_eq, beq_eq_false_iff_ne, bne_iff_ne, bne_eq_false_iff_eq, ne_eq, Bool.not_eq_true', Bool.not_eq_false', Decidable.not_not, Int.toNat_natCast] at hc6
      refine J.region ?_
      refine R.assign (GOk.no rfl) rfl rfl ?_
      refine Run.nil ⟨by kernel_rfl, ?_⟩
      exact toQ.mk (Gh.weak [(2, vC (.ptr 2 0)), (3, vC (.ptr 3 0)), (5, vI (a.text 0).2), (6, vI (b.text 0).2), (7, vI (kd a)), (8, vI (kd b)), (9, vI (if kd a = 5 then (1 : Int) else 0))] [(2, some (.pbox [pN (a.flat 0)])), (3, some (.pbox [pN (b.flat 0)])), (2000, some (lvO m)), (2002, some (pow10 q))] ⟨rfl, rfl, rfl, rfl, rfl, rfl, fs_eq rfl (vI_eq (by split <;> omega)), trivial⟩ ⟨rfl, rfl, rfl, rfl, trivial⟩) ⟨rfl, rfl⟩
    · try simp only [decide_eq_true_eq, decide_eq_false_iff_not, beq_iff_eq, beq_eq_false_iff_ne, bne_iff_ne, bne_eq_false_iff_eq, ne_eq, Bool.not_eq_true', Bool.not_eq_false', Decidable.not_not, Int.toNat_natCast] at hc6
      refine J.skip ?_
      exact toQ.mk (Gh.weak [(2, vC (.ptr 2 0)), (3, vC (.ptr 3 0)), (5, vI (a.text 0).2), (6, vI (b.text 0).2), (7, vI (kd a)), (8, vI (kd b)), (9, vI (if kd a = 5 then (1 : Int) else 0))] [(2, some (.pbox [pN (a.flat 0)])), (3, some (.pbox [pN (b.flat 0)])), (2000, some (lvO m)), (2002, some (pow10 q))] ⟨rfl, rfl, rfl, rfl, rfl, rfl, fs_eq rfl (vI_eq (by split <;> omega)), trivial⟩ ⟨rfl, rfl, rfl, rfl, trivial⟩) ⟨rfl, rfl⟩
theorem con_3_no (l l2 : List Nd) (hl : l.length ≤ 4611686018427387904) (hm : l2.length ≤ 4611686018427387904) (hT : ∀ x ∈ l, x.text.size ≤ 140737488355328) (hT2 : ∀ x ∈ l2, x.text.size ≤ 140737488355328)
    (hno : (few l && few l2 && formB l && formB l2) = false) : Con Tryd.prog 3 [sD l, sD l2] (BBt q m) [sB true] (BBt q m) [] := by
  refine con_of_J [] Tryd.func3 rfl rfl Tryd.ntmps3 rfl (Nat.le_of_ble_eq_true rfl) rfl rfl ?_
  refine J.seq ?_
  refine J.region ?_
  first | refine R.boxP rfl (GOk.no rfl) rfl rfl ?_ | refine R.boxA (GOk.no rfl) rfl rfl rfl ?_
  first | refine R.boxP rfl (GOk.no rfl) rfl rfl ?_ | refine R.boxA (GOk.no rfl) rfl rfl rfl ?_
  refine R.assign (GOk.no rfl) rfl rfl ?_
  refine Run.nil ⟨by kernel_rfl, ?_⟩
  refine J.seq ?_
  refine J.seq ?_
  refine J.region ?_
  refine R.call0 [] true (con_4) rfl (GOk.no rfl) (fun d h => by cases h; rfl) trivial ⟨rfl, rfl, trivial⟩ rfl (fun _ => ⟨rfl, rfl, trivial⟩) ?_
  refine R.not (GOk.no rfl) rfl rfl ?_
  refine R.move (GOk.no rfl) rfl rfl ?_
  first | refine R.ldPA Tryd.isAgg24 Tryd.sizeOf24 (GOk.of rfl rfl rfl _ rfl) rfl rfl rfl (Nat.le_of_ble_eq_true rfl) ?_ | refine R.ldAtA Tryd.isAgg24 Tryd.sizeOf24 (GOk.of rfl rfl rfl _ rfl) rfl rfl (Nat.le_of_ble_eq_true rfl) ?_ | refine R.ldBA Tryd.isAgg24 Tryd.sizeOf24 (GOk.of rfl rfl rfl _ rfl) rfl rfl rfl (Nat.le_of_ble_eq_true rfl) ?_ | refine R.ldElMA Tryd.isAgg24 Tryd.sizeOf24 (GOk.of rfl rfl rfl _ rfl) rfl rfl rfl (by omega) (Nat.le_of_ble_eq_true rfl) ?_
  refine R.call [((.tmp 16), _)] (con_5 l (by omega) hT) rfl (GOk.of rfl rfl rfl _ rfl) rfl ⟨rfl, trivial⟩ ?_
  refine R.not (GOk.of rfl rfl rfl _ rfl) rfl rfl ?_
  first | refine R.pickT (GOk.no rfl) rfl rfl rfl ?_ | refine R.pickF (GOk.no rfl) rfl rfl rfl ?_
  refine R.move (GOk.no rfl) rfl rfl ?_
  refine R.case 20 rfl (fun hg1 => ?_) (fun hg1 => ?_)
  · try simp only [decide_eq_true_eq, decide_eq_false_iff_not, beq_iff_eq, beq_eq_false_iff_ne, bne_iff_ne, bne_eq_false_iff_eq, ne_eq, Bool.not_eq_true', Bool.not_eq_false', Decidable.not_not, Int.toNat_natCast] at hg1
    refine R.pass (GOk.of rfl rfl rfl _ rfl) rfl ?_
    refine R.pass (GOk.of rfl rfl rfl _ rfl) rfl ?_
    refine R.pass (GOk.of rfl rfl rfl _ rfl) rfl ?_
    first | refine R.pickT (GOk.no rfl) rfl rfl rfl ?_ | refine R.pickF (GOk.no rfl) rfl rfl rfl ?_
    refine R.move (GOk.no rfl) rfl rfl ?_
    refine R.pass (GOk.of rfl rfl rfl _ rfl) rfl ?_
    refine R.pass (GOk.of rfl rfl rfl _ rfl) rfl ?_
    refine R.pass (GOk.of rfl rfl rfl _ rfl) rfl ?_
    first | refine R.pickT (GOk.no rfl) rfl rfl rfl ?_ | refine R.pickF (GOk.no rfl) rfl rfl rfl ?_
    refine R.move (GOk.no rfl) rfl rfl ?_
    refine R.pass (GOk.of rfl rfl rfl _ rfl) rfl ?_
    refine R.pass (GOk.of rfl rfl rfl _ rfl) rfl ?_
    refine R.pass (GOk.of rfl rfl rfl _ rfl) rfl ?_
    first | refine R.pickT (GOk.no rfl) rfl rfl rfl ?_ | refine R.pickF (GOk.no rfl) rfl rfl rfl ?_
    refine Run.nil ⟨by kernel_rfl, ?_⟩
    refine J.condT rfl ?_
    refine J.seq ?_
    refine J.region ?_
    refine R.call0 [] true (con_4) rfl (GOk.no rfl) (fun d h => by cases h; rfl) trivial ⟨rfl, rfl, trivial⟩ rfl (fun _ => ⟨rfl, rfl, trivial⟩) ?_
    refine R.assign (GOk.no rfl) rfl rfl ?_
    refine Run.nil ⟨by kernel_rfl, ?_⟩
    refine J.ret ?_
    exact FinQ.of ⟨ret_eq rfl (rfl), trivial⟩ ⟨rfl, rfl, trivial⟩
  · try simp only [decide_eq_true_eq, decide_eq_false_iff_not, beq_iff_eq, beq_eq_false_iff_ne, bne_iff_ne, bne_eq_false_iff_eq, ne_eq, Bool.not_eq_true', Bool.not_eq_false', Decidable.not_not, Int.toNat_natCast] at hg1
    first | refine R.ldPA Tryd.isAgg24 Tryd.sizeOf24 (GOk.of rfl rfl rfl _ rfl) rfl rfl rfl (Nat.le_of_ble_eq_true rfl) ?_ | refine R.ldAtA Tryd.isAgg24 Tryd.sizeOf24 (GOk.of rfl rfl rfl _ rfl) rfl rfl (Nat.le_of_ble_eq_true rfl) ?_ | refine R.ldBA Tryd.isAgg24 Tryd.sizeOf24 (GOk.of rfl rfl rfl _ rfl) rfl rfl rfl (Nat.le_of_ble_eq_true rfl) ?_ | refine R.ldElMA Tryd.isAgg24 Tryd.sizeOf24 (GOk.of rfl rfl rfl _ rfl) rfl rfl rfl (by omega) (Nat.le_of_ble_eq_true rfl) ?_
    refine R.call [((.tmp 21), _)] (con_5 l2 (by omega) hT2) rfl (GOk.of rfl rfl rfl _ rfl) rfl ⟨rfl, trivial⟩ ?_
    refine R.not (GOk.of rfl rfl rfl _ rfl) rfl rfl ?_
    first | refine R.pickT (GOk.no rfl) rfl rfl rfl ?_ | refine R.pickF (GOk.no rfl) rfl rfl rfl ?_
    refine R.move (GOk.no rfl) rfl rfl ?_
    refine R.case 25 rfl (fun hg2 => ?_) (fun hg2 => ?_)
    · try simp only [decide_eq_true_eq, decide_eq_false_iff_not, beq_iff_eq, beq_eq_false_iff_ne, bne_iff_ne, bne_eq_false_iff_eq, ne_eq, Bool.not_eq_true', Bool.not_eq_false', Decidable.not_not, Int.toNat_natCast] at hg2
      refine R.pass (GOk.of rfl rfl rfl _ rfl) rfl ?_
      refine R.pass (GOk.of rfl rfl rfl _ rfl) rfl ?_
      refine R.pass (GOk.of rfl rfl rfl _ rfl) rfl ?_
      first | refine R.pickT (GOk.no rfl) rfl rfl rfl ?_ | refine R.pickF (GOk.no rfl) rfl rfl rfl ?_
      refine R.move (GOk.no rfl) rfl rfl ?_
      refine R.pass (GOk.of rfl rfl rfl _ rfl) rfl ?_
      refine R.pass (GOk.of rfl rfl rfl _ rfl) rfl ?_
      refine R.pass (GOk.of rfl rfl rfl _ rfl) rfl ?_
      first | refine R.pickT (GOk.no rfl) rfl rfl rfl ?_ | refine R.pickF (GOk.no rfl) rfl rfl rfl ?_
      refine Run.nil ⟨by kernel_rfl, ?_⟩
      refine J.condT rfl ?_
      refine J.seq ?_
      refine J.region ?_
      refine R.call0 [] true (con_4) rfl (GOk.no rfl) (fun d h => by cases h; rfl) trivial ⟨rfl, rfl, trivial⟩ rfl (fun _ => ⟨rfl, rfl, trivial⟩) ?_
      refine R.assign (GOk.no rfl) rfl rfl ?_
      refine Run.nil ⟨by kernel_rfl, ?_⟩
      refine J.ret ?_
      exact FinQ.of ⟨ret_eq rfl (rfl), trivial⟩ ⟨rfl, rfl, trivial⟩
    · try simp only [decide_eq_true_eq, decide_eq_false_iff_not, beq_iff_eq, beq_eq_false_iff_ne, bne_iff_ne, bne_eq_false_iff_eq, ne_eq, Bool.not_eq_true', Bool.not_eq_false', Decidable.not_not, Int.toNat_natCast] at hg2
      first | refine R.ldPA Tryd.isAgg24 Tryd.sizeOf24 (GOk.of rfl rfl rfl _ rfl) rfl rfl rfl (Nat.le_of_ble_eq_true rfl) ?_ | refine R.ldAtA Tryd.isAgg24 Tryd.sizeOf24 (GOk.of rfl rfl rfl _ rfl) rfl rfl (Nat.le_of_ble_eq_true rfl) ?_ | refine R.ldBA Tryd.isAgg24 Tryd.sizeOf24 (GOk.of rfl rfl rfl _ rfl) rfl rfl rfl (Nat.le_of_ble_eq_true rfl) ?_ | refine R.ldElMA Tryd.isAgg24 Tryd.sizeOf24 (GOk.of rfl rfl rfl _ rfl) rfl rfl rfl (by omega) (Nat.le_of_ble_eq_true rfl) ?_
      refine R.call [((.tmp 26), _)] (con_6 l (by omega) hT) rfl (GOk.of rfl rfl rfl _ rfl) rfl ⟨rfl, trivial⟩ ?_
      refine R.not (GOk.of rfl rfl rfl _ rfl) rfl rfl ?_
      first | refine R.pickT (GOk.no rfl) rfl rfl rfl ?_ | refine R.pickF (GOk.no rfl) rfl rfl rfl ?_
      refine R.move (GOk.no rfl) rfl rfl ?_
      refine R.case 30 rfl (fun hg3 => ?_) (fun hg3 => ?_)
      · try simp only [decide_eq_true_eq, decide_eq_false_iff_not, beq_iff_eq, beq_eq_false_iff_ne, bne_iff_ne, bne_eq_false_iff_eq, ne_eq, Bool.not_eq_true', Bool.not_eq_false', Decidable.not_not, Int.toNat_natCast] at hg3
        refine R.pass (GOk.of rfl rfl rfl _ rfl) rfl ?_
        refine R.pass (GOk.of rfl rfl rfl _ rfl) rfl ?_
        refine R.pass (GOk.of rfl rfl rfl _ rfl) rfl ?_
        first | refine R.pickT (GOk.no rfl) rfl rfl rfl ?_ | refine R.pickF (GOk.no rfl) rfl rfl rfl ?_
        refine Run.nil ⟨by kernel_rfl, ?_⟩
        refine J.condT rfl ?_
        refine J.seq ?_
        refine J.region ?_
        refine R.call0 [] true (con_4) rfl (GOk.no rfl) (fun d h => by cases h; rfl) trivial ⟨rfl, rfl, trivial⟩ rfl (fun _ => ⟨rfl, rfl, trivial⟩) ?_
        refine R.assign (GOk.no rfl) rfl rfl ?_
        refine Run.nil ⟨by kernel_rfl, ?_⟩
        refine J.ret ?_
        exact FinQ.of ⟨ret_eq rfl (rfl), trivial⟩ ⟨rfl, rfl, trivial⟩
      · try simp only [decide_eq_true_eq, decide_eq_false_iff_not, beq_iff_eq, beq_eq_false_iff_ne, bne_iff_ne, bne_eq_false_iff_eq, ne_eq, Bool.not_eq_true', Bool.not_eq_false', Decidable.not_not, Int.toNat_natCast] at hg3
        first | refine R.ldPA Tryd.isAgg24 Tryd.sizeOf24 (GOk.of rfl rfl rfl _ rfl) rfl rfl rfl (Nat.le_of_ble_eq_true rfl) ?_ | refine R.ldAtA Tryd.isAgg24 Tryd.sizeOf24 (GOk.of rfl rfl rfl _ rfl) rfl rfl (Nat.le_of_ble_eq_true rfl) ?_ | refine R.ldBA Tryd.isAgg24 Tryd.sizeOf24 (GOk.of rfl rfl rfl _ rfl) rfl rfl rfl (Nat.le_of_ble_eq_true rfl) ?_ | refine R.ldElMA Tryd.isAgg24 Tryd.sizeOf24 (GOk.of rfl rfl rfl _ rfl) rfl rfl rfl (by omega) (Nat.le_of_ble_eq_true rfl) ?_
        refine R.call [((.tmp 31), _)] (con_6 l2 (by omega) hT2) rfl (GOk.of rfl rfl rfl _ rfl) rfl ⟨rfl, trivial⟩ ?_
        refine R.not (GOk.of rfl rfl rfl _ rfl) rfl rfl ?_
        first | refine R.pickT (GOk.no rfl) rfl rfl rfl ?_ | refine R.pickF (GOk.no rfl) rfl rfl rfl ?_
        refine Run.nil ⟨by kernel_rfl, ?_⟩
        refine J.cond rfl (fun hc4 => ?_) (fun hc4 => ?_)
        · try simp only [decide_eq_true_eq, decide_eq_false_iff_not, beq_iff_eq, beq_eq_false_iff_ne, bne_iff_ne, bne_eq_false_iff_eq, ne_eq, Bool.not_eq_true', Bool.not_eq_false', Decidable.not_not, Int.toNat_natCast] at hc4
          refine J.seq ?_
          refine J.region ?_
          refine R.call0 [] true (con_4) rfl (GOk.no rfl) (fun d h => by cases h; rfl) trivial ⟨rfl, rfl, trivial⟩ rfl (fun _ => ⟨rfl, rfl, trivial⟩) ?_
          refine R.assign (GOk.no rfl) rfl rfl ?_
          refine Run.nil ⟨by kernel_rfl, ?_⟩
          refine J.ret ?_
          exact FinQ.of ⟨ret_eq rfl (rfl), trivial⟩ ⟨rfl, rfl, trivial⟩
        · try simp only [decide_eq_true_eq, decide_eq_false_iff_not, beq_iff_eq, beq_eq_false_iff_ne, bne_iff_ne, bne_eq_false_iff_eq, ne_eq, Bool.not_eq_true', Bool.not_eq_false', Decidable.not_not, Int.toNat_natCast] at hc4
          (exfalso; simp_all)
end Go.Sc
