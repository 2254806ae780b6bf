/-
  PrintDeep: the walks of Few, First, Form, moved, Wrap and Pair. (Printed by a program of ours.)
-/
import Derived.Test.YtfaepfnjilgioaaDoorScP4
set_option linter.all false
set_option linter.unusedSimpArgs false
set_option linter.unusedVariables false
namespace Go.Sc
open Go Go.Proofs Go.Abs
set_option maxRecDepth 4000

theorem eq_30 {d : Nat} (a b : Cls) (w : World) : (Op.equalIn (d + 2) 30 (.agg (valsC a).toArray) (.agg (valsC b).toArray)).run Tryd.prog w = .ok (a.same b) w :=
  eqIn_array (bs := [a.c0 == b.c0, a.c1 == b.c1, a.c2 == b.c2, a.c3 == b.c3]) (xs := (valsC a).toArray) (ys := (valsC b).toArray) Tryd.underlying30 Tryd.sizeOf28
    ⟨.cell Tryd.isAgg28 rfl rfl fun _ => eqIn_int Tryd.underlying28, .cell Tryd.isAgg28 rfl rfl fun _ => eqIn_int Tryd.underlying28, .cell Tryd.isAgg28 rfl rfl fun _ => eqIn_int Tryd.underlying28, .cell Tryd.isAgg28 rfl rfl fun _ => eqIn_int Tryd.underlying28, trivial⟩ w
theorem eq_32 (a b : Nd) (w : World) : (Op.equalIn 10000 32 (.agg (valsN a).toArray) (.agg (valsN b).toArray)).run Tryd.prog w = .ok (a.same b) w :=
  eqIn_struct (d := 9999) (bs := [a.kind == b.kind, a.a == b.a, a.b == b.b, a.lo == b.lo, a.hi == b.hi, a.cls.same b.cls, a.text == b.text]) (xs := (valsN a).toArray) (ys := (valsN b).toArray) Tryd.underlying32 (by kernel_rfl)
    ⟨⟨by decide, .cell Tryd.isAgg3 rfl rfl fun _ => eqIn_int Tryd.underlying3⟩, ⟨by decide, .cell Tryd.isAgg3 rfl rfl fun _ => eqIn_int Tryd.underlying3⟩, ⟨by decide, .cell Tryd.isAgg3 rfl rfl fun _ => eqIn_int Tryd.underlying3⟩,
     ⟨by decide, .cell Tryd.isAgg3 rfl rfl fun _ => eqIn_int Tryd.underlying3⟩, ⟨by decide, .cell Tryd.isAgg3 rfl rfl fun _ => eqIn_int Tryd.underlying3⟩,
     ⟨by decide, .agg (us := (valsC a.cls).toArray) (vs := (valsC b.cls).toArray) Tryd.isAgg30 Tryd.sizeOf30 rfl rfl (eq_30 (d := 9997) a.cls b.cls)⟩, ⟨by decide, .cell Tryd.isAgg9 rfl rfl fun _ => eqIn_str Tryd.underlying9⟩, trivial⟩ w

theorem con_5 (l : List Nd) (hl : l.length ≤ 4611686018427387904) (hT : ∀ x ∈ l, x.text.size ≤ 140737488355328) : Con Tryd.prog 5 [sD l] [] [sB (few l)] [] [] := by
  refine con_of_J [] Tryd.func5 rfl rfl Tryd.ntmps5 rfl (Nat.le_of_ble_eq_true rfl) rfl rfl ?_
  refine J.seq ?_
  refine J.region ?_
  first | refine R.boxP rfl (GOk.no rfl) rfl rfl ?_ | refine R.boxA (GOk.no rfl) rfl rfl rfl ?_
  refine R.assign (GOk.no rfl) rfl rfl ?_
  refine Run.nil ⟨by kernel_rfl, ?_⟩
  refine J.seq ?_
  refine J.region ?_
  refine R.assign (GOk.no rfl) rfl rfl ?_
  refine Run.nil ⟨by kernel_rfl, ?_⟩
  refine J.seq ?_
  refine J.seq ?_
  refine J.region ?_
  refine R.assign (GOk.no rfl) rfl rfl ?_
  refine Run.nil ⟨by kernel_rfl, ?_⟩
  refine J.block ?_
  refine J.gh (Gh.weak [(1, vC (.ptr 1 0)), (4, vI ((0 : Nat) : Int)), (3, vI (txtSum l (0)))] [(1, some (.pbox [pN l]))] ⟨rfl, rfl, rfl, trivial⟩ ⟨rfl, trivial⟩) ?_
  refine J.loopG (fun (i : Nat) f b => (i ≤ l.length ∧ i ≤ 200) ∧ f = Facts.fn [(1, vC (.ptr 1 0)), (4, vI ((i : Nat) : Int)), (3, vI (txtSum l (i)))] ∧ b = BL.fn [(1, some (.pbox [pN l]))]) (fun i => l.length - i) 0 ⟨⟨by omega, by omega⟩, rfl, rfl⟩ ?_
  rintro i f b ⟨⟨hI, hJ⟩, rfl, rfl⟩
  refine J.seq ?_
  refine J.seq ?_
  refine J.region ?_
  refine R.move (GOk.no rfl) rfl rfl ?_
  first | refine R.fldPtr Tryd.underlying24 rfl Tryd.sizeOf22 rfl (GOk.no rfl) rfl rfl ?_ | refine R.fldAt Tryd.underlying24 rfl Tryd.sizeOf22 rfl (GOk.no rfl) rfl rfl ?_ | refine R.fldEl Tryd.underlying24 rfl Tryd.sizeOf22 rfl (GOk.no rfl) rfl rfl ?_
  first | refine R.ldP1 Tryd.isAgg22 (GOk.no rfl) rfl rfl rfl rfl ?_ | refine R.ldAt1 Tryd.isAgg22 (GOk.no rfl) rfl rfl rfl ?_ | refine R.ldB1 Tryd.isAgg22 (GOk.no rfl) rfl rfl rfl rfl ?_ | refine R.ldElM1 Tryd.isAgg22 (GOk.no rfl) rfl rfl rfl (by omega) rfl ?_
  refine R.lenL Tryd.underlying22 (GOk.no rfl) rfl rfl ?_
  refine R.spell 8 rfl (show _ = vI (l.length : Int) from vI_eq (by rw [List.length_map])) ?_
  refine R.lss (GOk.no rfl) rfl rfl rfl ?_
  refine R.move (GOk.no rfl) rfl rfl ?_
  refine R.case 10 rfl (fun hg1 => ?_) (fun hg1 => ?_)
  · try simp only [decide_eq_true_eq, decide_eq_false_iff_not, beq_iff_eq, beq_eq_false_iff_ne, bne_iff_ne, bne_eq_false_iff_eq, ne_eq, Bool.not_eq_true', Bool.not_eq_false', Decidable.not_not, Int.toNat_natCast] at hg1
    refine R.move (GOk.of rfl rfl rfl _ rfl) rfl rfl ?_
    refine R.lss (GOk.of rfl rfl rfl _ rfl) rfl rfl rfl ?_
    first | refine R.pickT (GOk.no rfl) rfl rfl rfl ?_ | refine R.pickF (GOk.no rfl) rfl rfl rfl ?_
    refine Run.nil ⟨by kernel_rfl, ?_⟩
    refine J.cond rfl (fun hc2 => ?_) (fun hc2 => ?_)
    · try simp only [decide_eq_true_eq, decide_eq_false_iff_not, beq_iff_eq, beq_eq_false_iff_ne, bne_iff_ne, bne_eq_false_iff_eq, ne_eq, Bool.not_eq_true', Bool.not_eq_false', Decidable.not_not, Int.toNat_natCast] at hc2
      refine J.skip ?_
      refine J.seq ?_
      refine J.block ?_
      refine J.region ?_
      refine R.move (GOk.no rfl) rfl rfl ?_
      first | refine R.fldPtr Tryd.underlying24 rfl Tryd.sizeOf22 rfl (GOk.no rfl) rfl rfl ?_ | refine R.fldAt Tryd.underlying24 rfl Tryd.sizeOf22 rfl (GOk.no rfl) rfl rfl ?_ | refine R.fldEl Tryd.underlying24 rfl Tryd.sizeOf22 rfl (GOk.no rfl) rfl rfl ?_
      first | refine R.ldP1 Tryd.isAgg22 (GOk.no rfl) rfl rfl rfl rfl ?_ | refine R.ldAt1 Tryd.isAgg22 (GOk.no rfl) rfl rfl rfl ?_ | refine R.ldB1 Tryd.isAgg22 (GOk.no rfl) rfl rfl rfl rfl ?_ | refine R.ldElM1 Tryd.isAgg22 (GOk.no rfl) rfl rfl rfl (by omega) rfl ?_
      refine R.move (GOk.no rfl) rfl rfl ?_
      first | refine R.idxM Tryd.underlying22 Tryd.sizeOf32 (GOk.no rfl) rfl rfl rfl (by omega) (by omega) ?_ | refine R.idxHot Tryd.underlying22 Tryd.sizeOf32 (GOk.no rfl) rfl rfl rfl (by omega) (by simp; omega) ?_
      first | refine R.fldPtr Tryd.underlying32 rfl Tryd.sizeOf9 rfl (GOk.no rfl) rfl rfl ?_ | refine R.fldAt Tryd.underlying32 rfl Tryd.sizeOf9 rfl (GOk.no rfl) rfl rfl ?_ | refine R.fldEl Tryd.underlying32 rfl Tryd.sizeOf9 rfl (GOk.no rfl) rfl rfl ?_
      first | refine R.ldP1 Tryd.isAgg9 (GOk.no rfl) rfl rfl rfl rfl ?_ | refine R.ldAt1 Tryd.isAgg9 (GOk.no rfl) rfl rfl rfl ?_ | refine R.ldB1 Tryd.isAgg9 (GOk.no rfl) rfl rfl rfl rfl ?_ | refine R.ldElM1 Tryd.isAgg9 (GOk.no rfl) rfl rfl rfl (by omega) rfl ?_
      refine R.lenS Tryd.underlying9 (GOk.no rfl) rfl rfl ?_
      have hS := txtSum_step hT (show i < l.length from by omega)
      refine R.add (GOk.no rfl) rfl rfl rfl ⟨by show _ ≤ _ + (((l[i]!).text.size : Nat) : Int); omega, by show _ + (((l[i]!).text.size : Nat) : Int) ≤ _; omega⟩ ?_
      refine R.assign (GOk.no rfl) rfl rfl ?_
      refine Run.nil ⟨by kernel_rfl, ?_⟩
      refine J.region ?_
      refine R.move (GOk.no rfl) rfl rfl ?_
      refine R.add (GOk.no rfl) rfl rfl rfl ⟨by omega, by omega⟩ ?_
      refine R.assign (GOk.no rfl) rfl rfl ?_
      refine Run.nil ⟨by kernel_rfl, ?_⟩
      exact toQ.mk (Gh.weak [(1, vC (.ptr 1 0)), (4, vI (((i + 1) : Nat) : Int)), (3, vI (txtSum l ((i + 1))))] [(1, some (.pbox [pN l]))] ⟨rfl, rfl, rfl, trivial⟩ ⟨rfl, trivial⟩) ⟨(i + 1), ⟨⟨by omega, by omega⟩, rfl, rfl⟩, by omega⟩
    · try simp only [decide_eq_true_eq, decide_eq_false_iff_not, beq_iff_eq, beq_eq_false_iff_ne, bne_iff_ne, bne_eq_false_iff_eq, ne_eq, Bool.not_eq_true', Bool.not_eq_false', Decidable.not_not, Int.toNat_natCast] at hc2
      refine J.exit ?_
      refine J.seq ?_
      refine J.region ?_
      first | refine R.fldPtr Tryd.underlying24 rfl Tryd.sizeOf22 rfl (GOk.no rfl) rfl rfl ?_ | refine R.fldAt Tryd.underlying24 rfl Tryd.sizeOf22 rfl (GOk.no rfl) rfl rfl ?_ | refine R.fldEl Tryd.underlying24 rfl Tryd.sizeOf22 rfl (GOk.no rfl) rfl rfl ?_
      first | refine R.ldP1 Tryd.isAgg22 (GOk.no rfl) rfl rfl rfl rfl ?_ | refine R.ldAt1 Tryd.isAgg22 (GOk.no rfl) rfl rfl rfl ?_ | refine R.ldB1 Tryd.isAgg22 (GOk.no rfl) rfl rfl rfl rfl ?_ | refine R.ldElM1 Tryd.isAgg22 (GOk.no rfl) rfl rfl rfl (by omega) rfl ?_
      refine R.lenL Tryd.underlying22 (GOk.no rfl) rfl rfl ?_
      refine R.spell 27 rfl (show _ = vI (l.length : Int) from vI_eq (by rw [List.length_map])) ?_
      refine R.leq (GOk.no rfl) rfl rfl rfl ?_
      refine R.move (GOk.no rfl) rfl rfl ?_
      refine R.case 29 rfl (fun hg3 => ?_) (fun hg3 => ?_)
      · try simp only [decide_eq_true_eq, decide_eq_false_iff_not, beq_iff_eq, beq_eq_false_iff_ne, bne_iff_ne, bne_eq_false_iff_eq, ne_eq, Bool.not_eq_true', Bool.not_eq_false', Decidable.not_not, Int.toNat_natCast] at hg3
        refine R.move (GOk.of rfl rfl rfl _ rfl) rfl rfl ?_
        refine R.leq (GOk.of rfl rfl rfl _ rfl) rfl rfl rfl ?_
        first | refine R.pickT (GOk.no rfl) rfl rfl rfl ?_ | refine R.pickF (GOk.no rfl) rfl rfl rfl ?_
        refine R.assign (GOk.no rfl) rfl rfl ?_
        refine Run.nil ⟨by kernel_rfl, ?_⟩
        refine J.ret ?_
        exact FinQ.of ⟨ret_eq rfl (svB (by have e : i = min l.length 200 := (by omega); subst e; simp [few, *] <;> omega)), trivial⟩ trivial
      · try simp only [decide_eq_true_eq, decide_eq_false_iff_not, beq_iff_eq, beq_eq_false_iff_ne, bne_iff_ne, bne_eq_false_iff_eq, ne_eq, Bool.not_eq_true', Bool.not_eq_false', Decidable.not_not, Int.toNat_natCast] at hg3
        refine R.pass (GOk.of rfl rfl rfl _ rfl) rfl ?_
        refine R.pass (GOk.of rfl rfl rfl _ rfl) rfl ?_
        first | refine R.pickT (GOk.no rfl) rfl rfl rfl ?_ | refine R.pickF (GOk.no rfl) rfl rfl rfl ?_
        refine R.assign (GOk.no rfl) rfl rfl ?_
        refine Run.nil ⟨by kernel_rfl, ?_⟩
        refine J.ret ?_
        exact FinQ.of ⟨ret_eq rfl (svB (by have e : i = min l.length 200 := (by omega); subst e; simp [few, *] <;> omega)), trivial⟩ trivial
  · try simp only [decide_eq_true_eq, decide_eq_false_iff_not, beq_iff_eq, beq_eq_false_iff_ne, bne_iff_ne, bne_eq_false_iff_eq, ne_eq, Bool.not_eq_true', Bool.not_eq_false', Decidable.not_not, Int.toNat_natCast] at hg1
    refine R.pass (GOk.of rfl rfl rfl _ rfl) rfl ?_
    refine R.pass (GOk.of rfl rfl rfl _ rfl) rfl ?_
    first | refine R.pickT (GOk.no rfl) rfl rfl rfl ?_ | refine R.pickF (GOk.no rfl) rfl rfl rfl ?_
    refine Run.nil ⟨by kernel_rfl, ?_⟩
    refine J.condF rfl ?_
    refine J.exit ?_
    refine J.seq ?_
    refine J.region ?_
    first | refine R.fldPtr Tryd.underlying24 rfl Tryd.sizeOf22 rfl (GOk.no rfl) rfl rfl ?_ | refine R.fldAt Tryd.underlying24 rfl Tryd.sizeOf22 rfl (GOk.no rfl) rfl rfl ?_ | refine R.fldEl Tryd.underlying24 rfl Tryd.sizeOf22 rfl (GOk.no rfl) rfl rfl ?_
    first | refine R.ldP1 Tryd.isAgg22 (GOk.no rfl) rfl rfl rfl rfl ?_ | refine R.ldAt1 Tryd.isAgg22 (GOk.no rfl) rfl rfl rfl ?_ | refine R.ldB1 Tryd.isAgg22 (GOk.no rfl) rfl rfl rfl rfl ?_ | refine R.ldElM1 Tryd.isAgg22 (GOk.no rfl) rfl rfl rfl (by omega) rfl ?_
    refine R.lenL Tryd.underlying22 (GOk.no rfl) rfl rfl ?_
    refine R.spell 27 rfl (show _ = vI (l.length : Int) from vI_eq (by rw [List.length_map])) ?_
    refine R.leq (GOk.no rfl) rfl rfl rfl ?_
    refine R.move (GOk.no rfl) rfl rfl ?_
    refine R.case 29 rfl (fun hg4 => ?_) (fun hg4 => ?_)
    · try simp only [decide_eq_true_eq, decide_eq_false_iff_not, beq_iff_eq, beq_eq_false_iff_ne, bne_iff_ne, bne_eq_false_iff_eq, ne_eq, Bool.not_eq_true', Bool.not_eq_false', Decidable.not_not, Int.toNat_natCast] at hg4
      refine R.move (GOk.of rfl rfl rfl _ rfl) rfl rfl ?_
      refine R.leq (GOk.of rfl rfl rfl _ rfl) rfl rfl rfl ?_
      first | refine R.pickT (GOk.no rfl) rfl rfl rfl ?_ | refine R.pickF (GOk.no rfl) rfl rfl rfl ?_
      refine R.assign (GOk.no rfl) rfl rfl ?_
      refine Run.nil ⟨by kernel_rfl, ?_⟩
      refine J.ret ?_
      exact FinQ.of ⟨ret_eq rfl (svB (by have e : i = min l.length 200 := (by omega); subst e; simp [few, *] <;> omega)), trivial⟩ trivial
    · try simp only [decide_eq_true_eq, decide_eq_false_iff_not, beq_iff_eq, beq_eq_false_iff_ne, bne_iff_ne, bne_eq_false_iff_eq, ne_eq, Bool.not_eq_true', Bool.not_eq_false', Decidable.not_not, Int.toNat_natCast] at hg4
      refine R.pass (GOk.of rfl rfl rfl _ rfl) rfl ?_
      refine R.pass (GOk.of rfl rfl rfl _ rfl) rfl ?_
      first | refine R.pickT (GOk.no rfl) rfl rfl rfl ?_ | refine R.pickF (GOk.no rfl) rfl rfl rfl ?_
      refine R.assign (GOk.no rfl) rfl rfl ?_
      refine Run.nil ⟨by kernel_rfl, ?_⟩
      refine J.ret ?_
      exact FinQ.of ⟨ret_eq rfl (svB (by have e : i = min l.length 200 := (by omega); subst e; simp [few, *] <;> omega)), trivial⟩ trivial
theorem con_13 (l : List Nd) (hl : l.length ≤ 4611686018427387904) (hT : ∀ x ∈ l, x.text.size ≤ 140737488355328) : ∀ j : Nat, j ≤ l.length → Con Tryd.prog 13 [sN l, sI ((j : Int) - 1)] [] [sI (fstN l j)] [] [] := by
  intro j
  induction j using Nat.strongRecOn with | _ j ih => ?_
  intro hj
  refine con_of_J [] Tryd.func13 rfl rfl Tryd.ntmps13 rfl (Nat.le_of_ble_eq_true rfl) rfl rfl ?_
  refine J.seq ?_
  refine J.region ?_
  refine R.assign (GOk.no rfl) rfl rfl ?_
  refine Run.nil ⟨by kernel_rfl, ?_⟩
  refine J.seq ?_
  refine J.seq ?_
  refine J.region ?_
  refine R.move (GOk.no rfl) rfl rfl ?_
  refine R.lss (GOk.no rfl) rfl rfl rfl ?_
  refine Run.nil ⟨by kernel_rfl, ?_⟩
  refine J.cond rfl (fun hc1 => ?_) (fun hc1 => ?_)
  · try simp only [decide_eq_true_eq, decide_eq_false_iff_not, beq_iff_eq, beq_eq_false_iff_ne, bne_iff_ne, bne_eq_false_iff_eq, ne_eq, Bool.not_eq_true', Bool.not_eq_false', Decidable.not_not, Int.toNat_natCast] at hc1
    refine J.seq ?_
    refine J.region ?_
    refine R.assign (GOk.no rfl) rfl rfl ?_
    refine Run.nil ⟨by kernel_rfl, ?_⟩
    refine J.ret ?_
    first | exact FinQ.of ⟨ret_eq rfl (svI (by have e : j = 0 := (by omega); subst e; rw [fstN])), trivial⟩ trivial | exact FinQ.of ⟨ret_eq rfl (svI (by rw [hM, if_pos (show l[k]!.same wn = true from hc2)])), trivial⟩ trivial | exact FinQ.of ⟨ret_eq rfl (svI (by rw [hM, if_neg (show ¬ (l[k]!.same wn = true) from by rw [hc2]; decide)])), trivial⟩ trivial | exact FinQ.of ⟨ret_eq rfl (svI (by omega)), trivial⟩ trivial | exact FinQ.of ⟨ret_eq rfl (svI (by rw [fstN]; simp [*, -List.getElem!_eq_getElem?_getD])), trivial⟩ trivial
  · try simp only [decide_eq_true_eq, decide_eq_false_iff_not, beq_iff_eq, beq_eq_false_iff_ne, bne_iff_ne, bne_eq_false_iff_eq, ne_eq, Bool.not_eq_true', Bool.not_eq_false', Decidable.not_not, Int.toNat_natCast] at hc1
    refine J.skip ?_
    refine J.seq ?_
    obtain ⟨k, rfl⟩ : ∃ k, j = k + 1 := ⟨j - 1, by omega⟩
    have hF := fstN_le l k
    have hF2 : (fstN l k).toNat ≤ k := by omega
    refine J.gh (Gh.weak [(0, vP (pN l)), (1, vI ((k : Nat) : Int))] [] ⟨rfl, fs_eq rfl (vI_eq (by omega)), trivial⟩ trivial) ?_
    refine J.region ?_
    refine R.move (GOk.no rfl) rfl rfl ?_
    refine R.move (GOk.no rfl) rfl rfl ?_
    refine R.idxM Tryd.underlying22 Tryd.sizeOf32 (GOk.no rfl) rfl rfl rfl (by omega) (by omega) ?_
    first | refine R.ldPA Tryd.isAgg32 Tryd.sizeOf32 (GOk.no rfl) rfl rfl rfl (Nat.le_of_ble_eq_true rfl) ?_ | refine R.ldAtA Tryd.isAgg32 Tryd.sizeOf32 (GOk.no rfl) rfl rfl (Nat.le_of_ble_eq_true rfl) ?_ | refine R.ldBA Tryd.isAgg32 Tryd.sizeOf32 (GOk.no rfl) rfl rfl rfl (Nat.le_of_ble_eq_true rfl) ?_ | refine R.ldElMA Tryd.isAgg32 Tryd.sizeOf32 (GOk.no rfl) rfl rfl rfl (by omega) (Nat.le_of_ble_eq_true rfl) ?_
    refine R.alloc _ (GOk.no rfl) rfl _ Tryd.zeroValue32 rfl rfl ?_
    first | refine R.stP Tryd.sizeOf32 (GOk.no rfl) rfl rfl rfl rfl rfl (Nat.le_of_ble_eq_true rfl) ?_ | refine R.stPB Tryd.sizeOf32 (GOk.no rfl) rfl rfl rfl rfl rfl ?_ | refine R.stB Tryd.sizeOf32 (GOk.no rfl) rfl rfl rfl rfl (Nat.le_of_ble_eq_true rfl) ?_
    refine Run.nil ⟨by kernel_rfl, ?_⟩
    refine J.seq ?_
    refine J.region ?_
    first | refine R.fldPtr Tryd.underlying32 rfl Tryd.sizeOf3 rfl (GOk.no rfl) rfl rfl ?_ | refine R.fldAt Tryd.underlying32 rfl Tryd.sizeOf3 rfl (GOk.no rfl) rfl rfl ?_ | refine R.fldEl Tryd.underlying32 rfl Tryd.sizeOf3 rfl (GOk.no rfl) rfl rfl ?_
    first | refine R.ldP1 Tryd.isAgg3 (GOk.no rfl) rfl rfl rfl rfl ?_ | refine R.ldAt1 Tryd.isAgg3 (GOk.no rfl) rfl rfl rfl ?_ | refine R.ldB1 Tryd.isAgg3 (GOk.no rfl) rfl rfl rfl rfl ?_ | refine R.ldElM1 Tryd.isAgg3 (GOk.no rfl) rfl rfl rfl (by omega) rfl ?_
    first | refine R.buildP [(0, 0, (.tmp 16), _)] (GOk.no rfl) rfl ⟨rfl, trivial⟩ bt_32 rfl ⟨rfl, (Nat.le_of_ble_eq_true rfl), trivial⟩ rfl ?_ | refine R.buildA [(0, 0, (.tmp 16), _)] (GOk.no rfl) rfl ⟨rfl, trivial⟩ bt_32 rfl ⟨rfl, (Nat.le_of_ble_eq_true rfl), trivial⟩ rfl ?_
    refine R.alloc _ (GOk.no rfl) rfl _ Tryd.zeroValue32 rfl rfl ?_
    first | refine R.stP Tryd.sizeOf32 (GOk.no rfl) rfl rfl rfl rfl rfl (Nat.le_of_ble_eq_true rfl) ?_ | refine R.stPB Tryd.sizeOf32 (GOk.no rfl) rfl rfl rfl rfl rfl ?_ | refine R.stB Tryd.sizeOf32 (GOk.no rfl) rfl rfl rfl rfl (Nat.le_of_ble_eq_true rfl) ?_
    refine Run.nil ⟨by kernel_rfl, ?_⟩
    refine J.seq ?_
    refine J.region ?_
    refine R.move (GOk.no rfl) rfl rfl ?_
    refine R.assign (GOk.no rfl) rfl rfl ?_
    refine Run.nil ⟨by kernel_rfl, ?_⟩
    refine J.join (fun f b => ∃ (wn : Nd) (fi : Int), (fstN l (k + 1) = if l[k]!.same wn then fi else -1) ∧ f = Facts.fn [(5, vC (.ptr 5 0)), (6, vC (.ptr 6 0)), (7, vI (fi))] ∧ b = BL.fn [(5, some (.pbox (encN l[k]!))), (6, some (.pbox (encN wn)))]) ?_ ?_
    ·  -- behind b0
      rintro f b ⟨wn, fi, hM, rfl, rfl⟩
      refine J.seq ?_
      refine J.seq ?_
      refine J.region ?_
      first | refine R.ldPA Tryd.isAgg32 Tryd.sizeOf32 (GOk.no rfl) rfl rfl rfl (Nat.le_of_ble_eq_true rfl) ?_ | refine R.ldAtA Tryd.isAgg32 Tryd.sizeOf32 (GOk.no rfl) rfl rfl (Nat.le_of_ble_eq_true rfl) ?_ | refine R.ldBA Tryd.isAgg32 Tryd.sizeOf32 (GOk.no rfl) rfl rfl rfl (Nat.le_of_ble_eq_true rfl) ?_ | refine R.ldElMA Tryd.isAgg32 Tryd.sizeOf32 (GOk.no rfl) rfl rfl rfl (by omega) (Nat.le_of_ble_eq_true rfl) ?_
      first | refine R.ldPA Tryd.isAgg32 Tryd.sizeOf32 (GOk.no rfl) rfl rfl rfl (Nat.le_of_ble_eq_true rfl) ?_ | refine R.ldAtA Tryd.isAgg32 Tryd.sizeOf32 (GOk.no rfl) rfl rfl (Nat.le_of_ble_eq_true rfl) ?_ | refine R.ldBA Tryd.isAgg32 Tryd.sizeOf32 (GOk.no rfl) rfl rfl rfl (Nat.le_of_ble_eq_true rfl) ?_ | refine R.ldElMA Tryd.isAgg32 Tryd.sizeOf32 (GOk.no rfl) rfl rfl rfl (by omega) (Nat.le_of_ble_eq_true rfl) ?_
      refine R.neqA (va := valsN l[k]!) (vb := valsN wn) _ (by kernel_rfl) (eq_32 _ _) (GOk.no rfl) rfl rfl rfl ?_
      refine Run.nil ⟨by kernel_rfl, ?_⟩
      refine J.cond rfl (fun hc2 => ?_) (fun hc2 => ?_)
      · try simp only [decide_eq_true_eq, decide_eq_false_iff_not, beq_iff_eq, beq_eq_false_iff_ne, bne_iff_ne, bne_eq_false_iff_eq, ne_eq, Bool.not_eq_true', Bool.not_eq_false', Decidable.not_not, Int.toNat_natCast] at hc2
        refine J.seq ?_
        refine J.region ?_
        refine R.assign (GOk.no rfl) rfl rfl ?_
        refine Run.nil ⟨by kernel_rfl, ?_⟩
        refine J.ret ?_
        first | exact FinQ.of ⟨ret_eq rfl (svI (by have e : j = 0 := (by omega); subst e; rw [fstN])), trivial⟩ trivial | exact FinQ.of ⟨ret_eq rfl (svI (by rw [hM, if_pos (show l[k]!.same wn = true from hc2)])), trivial⟩ trivial | exact FinQ.of ⟨ret_eq rfl (svI (by rw [hM, if_neg (show ¬ (l[k]!.same wn = true) from by rw [hc2]; decide)])), trivial⟩ trivial | exact FinQ.of ⟨ret_eq rfl (svI (by omega)), trivial⟩ trivial | exact FinQ.of ⟨ret_eq rfl (svI (by rw [fstN]; simp [*, -List.getElem!_eq_getElem?_getD])), trivial⟩ trivial
      · try simp only [decide_eq_true_eq, decide_eq_false_iff_not, beq_iff_eq, beq_eq_false_iff_ne, bne_iff_ne, bne_eq_false_iff_eq, ne_eq, Bool.not_eq_true', Bool.not_eq_false', Decidable.not_not, Int.toNat_natCast] at hc2
        refine J.skip ?_
        refine J.seq ?_
        refine J.region ?_
        refine R.move (GOk.no rfl) rfl rfl ?_
        refine R.assign (GOk.no rfl) rfl rfl ?_
        refine Run.nil ⟨by kernel_rfl, ?_⟩
        refine J.ret ?_
        first | exact FinQ.of ⟨ret_eq rfl (svI (by have e : j = 0 := (by omega); subst e; rw [fstN])), trivial⟩ trivial | exact FinQ.of ⟨ret_eq rfl (svI (by rw [hM, if_pos (show l[k]!.same wn = true from hc2)])), trivial⟩ trivial | exact FinQ.of ⟨ret_eq rfl (svI (by rw [hM, if_neg (show ¬ (l[k]!.same wn = true) from by rw [hc2]; decide)])), trivial⟩ trivial | exact FinQ.of ⟨ret_eq rfl (svI (by omega)), trivial⟩ trivial | exact FinQ.of ⟨ret_eq rfl (svI (by rw [fstN]; simp [*, -List.getElem!_eq_getElem?_getD])), trivial⟩ trivial
    ·  -- b0
      refine J.seq ?_
      refine J.region ?_
      first | refine R.fldPtr Tryd.underlying32 rfl Tryd.sizeOf3 rfl (GOk.no rfl) rfl rfl ?_ | refine R.fldAt Tryd.underlying32 rfl Tryd.sizeOf3 rfl (GOk.no rfl) rfl rfl ?_ | refine R.fldEl Tryd.underlying32 rfl Tryd.sizeOf3 rfl (GOk.no rfl) rfl rfl ?_
      first | refine R.ldP1 Tryd.isAgg3 (GOk.no rfl) rfl rfl rfl rfl ?_ | refine R.ldAt1 Tryd.isAgg3 (GOk.no rfl) rfl rfl rfl ?_ | refine R.ldB1 Tryd.isAgg3 (GOk.no rfl) rfl rfl rfl rfl ?_ | refine R.ldElM1 Tryd.isAgg3 (GOk.no rfl) rfl rfl rfl (by omega) rfl ?_
      refine Run.nil ⟨by kernel_rfl, ?_⟩
      refine J.block ?_
      refine J.seq ?_
      refine J.region ?_
      refine R.eql (GOk.no rfl) rfl rfl rfl ?_
      refine R.assign (GOk.no rfl) rfl rfl ?_
      refine Run.nil ⟨by kernel_rfl, ?_⟩
      refine J.cond rfl (fun hc3 => ?_) (fun hc3 => ?_)
      · try simp only [decide_eq_true_eq, decide_eq_false_iff_not, beq_iff_eq, beq_eq_false_iff_ne, bne_iff_ne, bne_eq_false_iff_eq, ne_eq, Bool.not_eq_true', Bool.not_eq_false', Decidable.not_not, Int.toNat_natCast] at hc3
        refine J.skip ?_
        first | (exfalso; omega) | exact toQ.mk (Gh.weak [(5, vC (.ptr 5 0)), (6, vC (.ptr 6 0)), (7, vI ((k : Int)))] [(5, some (.pbox (encN l[k]!))), (6, some (.pbox (encN { (default : Nd) with kind := l[k]!.kind })))] ⟨rfl, rfl, rfl, trivial⟩ ⟨rfl, rfl, trivial⟩) ⟨{ (default : Nd) with kind := l[k]!.kind }, (k : Int), by rw [fstN]; simp [*, -List.getElem!_eq_getElem?_getD], rfl, rfl⟩ | exact toQ.mk (Gh.weak [(5, vC (.ptr 5 0)), (6, vC (.ptr 6 0)), (7, vI ((k : Int)))] [(5, some (.pbox (encN l[k]!))), (6, some (.pbox (encN { (default : Nd) with kind := l[k]!.kind, cls := l[k]!.cls })))] ⟨rfl, rfl, rfl, trivial⟩ ⟨rfl, rfl, trivial⟩) ⟨{ (default : Nd) with kind := l[k]!.kind, cls := l[k]!.cls }, (k : Int), by rw [fstN]; simp [*, -List.getElem!_eq_getElem?_getD], rfl, rfl⟩ | exact toQ.mk (Gh.weak [(5, vC (.ptr 5 0)), (6, vC (.ptr 6 0)), (7, vI ((k : Int)))] [(5, some (.pbox (encN l[k]!))), (6, some (.pbox (encN { (default : Nd) with kind := l[k]!.kind, text := l[k]!.text })))] ⟨rfl, rfl, rfl, trivial⟩ ⟨rfl, rfl, trivial⟩) ⟨{ (default : Nd) with kind := l[k]!.kind, text := l[k]!.text }, (k : Int), by rw [fstN]; simp [*, -List.getElem!_eq_getElem?_getD], rfl, rfl⟩ | exact toQ.mk (Gh.weak [(5, vC (.ptr 5 0)), (6, vC (.ptr 6 0)), (7, vI (fstN l k))] [(5, some (.pbox (encN l[k]!))), (6, some (.pbox (encN { (default : Nd) with kind := l[k]!.kind, a := (k : Int) - 1 })))] ⟨rfl, rfl, rfl, trivial⟩ ⟨rfl, rfl, trivial⟩) ⟨{ (default : Nd) with kind := l[k]!.kind, a := (k : Int) - 1 }, fstN l k, by rw [fstN]; simp [*, -List.getElem!_eq_getElem?_getD], rfl, rfl⟩ | exact toQ.mk (Gh.weak [(5, vC (.ptr 5 0)), (6, vC (.ptr 6 0)), (7, vI (fstN l k))] [(5, some (.pbox (encN l[k]!))), (6, some (.pbox (encN { (default : Nd) with kind := l[k]!.kind, a := (k : Int) - 1, lo := l[k]!.lo, hi := l[k]!.hi })))] ⟨rfl, rfl, rfl, trivial⟩ ⟨rfl, rfl, trivial⟩) ⟨{ (default : Nd) with kind := l[k]!.kind, a := (k : Int) - 1, lo := l[k]!.lo, hi := l[k]!.hi }, fstN l k, by rw [fstN]; simp [*, -List.getElem!_eq_getElem?_getD], rfl, rfl⟩ | exact toQ.mk (Gh.weak [(5, vC (.ptr 5 0)), (6, vC (.ptr 6 0)), (7, vI (fstN l (fstN l k).toNat))] [(5, some (.pbox (encN l[k]!))), (6, some (.pbox (encN { (default : Nd) with kind := l[k]!.kind, b := (k : Int) - 1, a := fstN l k - 1 })))] ⟨rfl, rfl, rfl, trivial⟩ ⟨rfl, rfl, trivial⟩) ⟨{ (default : Nd) with kind := l[k]!.kind, b := (k : Int) - 1, a := fstN l k - 1 }, fstN l (fstN l k).toNat, by rw [fstN]; simp [*, -List.getElem!_eq_getElem?_getD], rfl, rfl⟩
      · try simp only [decide_eq_true_eq, decide_eq_false_iff_not, beq_iff_eq, beq_eq_false_iff_ne, bne_iff_ne, bne_eq_false_iff_eq, ne_eq, Bool.not_eq_true', Bool.not_eq_false', Decidable.not_not, Int.toNat_natCast] at hc3
        refine J.seq ?_
        refine J.region ?_
        refine R.eql (GOk.no rfl) rfl rfl rfl ?_
        refine R.assign (GOk.no rfl) rfl rfl ?_
        refine Run.nil ⟨by kernel_rfl, ?_⟩
        refine J.cond rfl (fun hc4 => ?_) (fun hc4 => ?_)
        · try simp only [decide_eq_true_eq, decide_eq_false_iff_not, beq_iff_eq, beq_eq_false_iff_ne, bne_iff_ne, bne_eq_false_iff_eq, ne_eq, Bool.not_eq_true', Bool.not_eq_false', Decidable.not_not, Int.toNat_natCast] at hc4
          refine J.region ?_
          first | refine R.fldPtr Tryd.underlying32 rfl Tryd.sizeOf30 rfl (GOk.no rfl) rfl rfl ?_ | refine R.fldAt Tryd.underlying32 rfl Tryd.sizeOf30 rfl (GOk.no rfl) rfl rfl ?_ | refine R.fldEl Tryd.underlying32 rfl Tryd.sizeOf30 rfl (GOk.no rfl) rfl rfl ?_
          first | refine R.ldPA Tryd.isAgg30 Tryd.sizeOf30 (GOk.no rfl) rfl rfl rfl (Nat.le_of_ble_eq_true rfl) ?_ | refine R.ldAtA Tryd.isAgg30 Tryd.sizeOf30 (GOk.no rfl) rfl rfl (Nat.le_of_ble_eq_true rfl) ?_ | refine R.ldBA Tryd.isAgg30 Tryd.sizeOf30 (GOk.no rfl) rfl rfl rfl (Nat.le_of_ble_eq_true rfl) ?_ | refine R.ldElMA Tryd.isAgg30 Tryd.sizeOf30 (GOk.no rfl) rfl rfl rfl (by omega) (Nat.le_of_ble_eq_true rfl) ?_
          first | refine R.fldPtr Tryd.underlying32 rfl Tryd.sizeOf30 rfl (GOk.no rfl) rfl rfl ?_ | refine R.fldAt Tryd.underlying32 rfl Tryd.sizeOf30 rfl (GOk.no rfl) rfl rfl ?_ | refine R.fldEl Tryd.underlying32 rfl Tryd.sizeOf30 rfl (GOk.no rfl) rfl rfl ?_
          first | refine R.stP Tryd.sizeOf30 (GOk.no rfl) rfl rfl rfl rfl rfl (Nat.le_of_ble_eq_true rfl) ?_ | refine R.stPB Tryd.sizeOf30 (GOk.no rfl) rfl rfl rfl rfl rfl ?_ | refine R.stB Tryd.sizeOf30 (GOk.no rfl) rfl rfl rfl rfl (Nat.le_of_ble_eq_true rfl) ?_
          refine Run.nil ⟨by kernel_rfl, ?_⟩
          first | (exfalso; omega) | exact toQ.mk (Gh.weak [(5, vC (.ptr 5 0)), (6, vC (.ptr 6 0)), (7, vI ((k : Int)))] [(5, some (.pbox (encN l[k]!))), (6, some (.pbox (encN { (default : Nd) with kind := l[k]!.kind })))] ⟨rfl, rfl, rfl, trivial⟩ ⟨rfl, rfl, trivial⟩) ⟨{ (default : Nd) with kind := l[k]!.kind }, (k : Int), by rw [fstN]; simp [*, -List.getElem!_eq_getElem?_getD], rfl, rfl⟩ | exact toQ.mk (Gh.weak [(5, vC (.ptr 5 0)), (6, vC (.ptr 6 0)), (7, vI ((k : Int)))] [(5, some (.pbox (encN l[k]!))), (6, some (.pbox (encN { (default : Nd) with kind := l[k]!.kind, cls := l[k]!.cls })))] ⟨rfl, rfl, rfl, trivial⟩ ⟨rfl, rfl, trivial⟩) ⟨{ (default : Nd) with kind := l[k]!.kind, cls := l[k]!.cls }, (k : Int), by rw [fstN]; simp [*, -List.getElem!_eq_getElem?_getD], rfl, rfl⟩ | exact toQ.mk (Gh.weak [(5, vC (.ptr 5 0)), (6, vC (.ptr 6 0)), (7, vI ((k : Int)))] [(5, some (.pbox (encN l[k]!))), (6, some (.pbox (encN { (default : Nd) with kind := l[k]!.kind, text := l[k]!.text })))] ⟨rfl, rfl, rfl, trivial⟩ ⟨rfl, rfl, trivial⟩) ⟨{ (default : Nd) with kind := l[k]!.kind, text := l[k]!.text }, (k : Int), by rw [fstN]; simp [*, -List.getElem!_eq_getElem?_getD], rfl, rfl⟩ | exact toQ.mk (Gh.weak [(5, vC (.ptr 5 0)), (6, vC (.ptr 6 0)), (7, vI (fstN l k))] [(5, some (.pbox (encN l[k]!))), (6, some (.pbox (encN { (default : Nd) with kind := l[k]!.kind, a := (k : Int) - 1 })))] ⟨rfl, rfl, rfl, trivial⟩ ⟨rfl, rfl, trivial⟩) ⟨{ (default : Nd) with kind := l[k]!.kind, a := (k : Int) - 1 }, fstN l k, by rw [fstN]; simp [*, -List.getElem!_eq_getElem?_getD], rfl, rfl⟩ | exact toQ.mk (Gh.weak [(5, vC (.ptr 5 0)), (6, vC (.ptr 6 0)), (7, vI (fstN l k))] [(5, some (.pbox (encN l[k]!))), (6, some (.pbox (encN { (default : Nd) with kind := l[k]!.kind, a := (k : Int) - 1, lo := l[k]!.lo, hi := l[k]!.hi })))] ⟨rfl, rfl, rfl, trivial⟩ ⟨rfl, rfl, trivial⟩) ⟨{ (default : Nd) with kind := l[k]!.kind, a := (k : Int) - 1, lo := l[k]!.lo, hi := l[k]!.hi }, fstN l k, by rw [fstN]; simp [*, -List.getElem!_eq_getElem?_getD], rfl, rfl⟩ | exact toQ.mk (Gh.weak [(5, vC (.ptr 5 0)), (6, vC (.ptr 6 0)), (7, vI (fstN l (fstN l k).toNat))] [(5, some (.pbox (encN l[k]!))), (6, some (.pbox (encN { (default : Nd) with kind := l[k]!.kind, b := (k : Int) - 1, a := fstN l k - 1 })))] ⟨rfl, rfl, rfl, trivial⟩ ⟨rfl, rfl, trivial⟩) ⟨{ (default : Nd) with kind := l[k]!.kind, b := (k : Int) - 1, a := fstN l k - 1 }, fstN l (fstN l k).toNat, by rw [fstN]; simp [*, -List.getElem!_eq_getElem?_getD], rfl, rfl⟩
        · try simp only [decide_eq_true_eq, decide_eq_false_iff_not, beq_iff_eq, beq_eq_false_iff_ne, bne_iff_ne, bne_eq_false_iff_eq, ne_eq, Bool.not_eq_true', Bool.not_eq_false', Decidable.not_not, Int.toNat_natCast] at hc4
          refine J.seq ?_
          refine J.region ?_
          refine R.eql (GOk.no rfl) rfl rfl rfl ?_
          refine R.assign (GOk.no rfl) rfl rfl ?_
          refine Run.nil ⟨by kernel_rfl, ?_⟩
          refine J.cond rfl (fun hc5 => ?_) (fun hc5 => ?_)
          · try simp only [decide_eq_true_eq, decide_eq_false_iff_not, beq_iff_eq, beq_eq_false_iff_ne, bne_iff_ne, bne_eq_false_iff_eq, ne_eq, Bool.not_eq_true', Bool.not_eq_false', Decidable.not_not, Int.toNat_natCast] at hc5
            refine J.seq ?_
            refine J.region ?_
            first | refine R.fldPtr Tryd.underlying32 rfl Tryd.sizeOf9 rfl (GOk.no rfl) rfl rfl ?_ | refine R.fldAt Tryd.underlying32 rfl Tryd.sizeOf9 rfl (GOk.no rfl) rfl rfl ?_ | refine R.fldEl Tryd.underlying32 rfl Tryd.sizeOf9 rfl (GOk.no rfl) rfl rfl ?_
            first | refine R.ldP1 Tryd.isAgg9 (GOk.no rfl) rfl rfl rfl rfl ?_ | refine R.ldAt1 Tryd.isAgg9 (GOk.no rfl) rfl rfl rfl ?_ | refine R.ldB1 Tryd.isAgg9 (GOk.no rfl) rfl rfl rfl rfl ?_ | refine R.ldElM1 Tryd.isAgg9 (GOk.no rfl) rfl rfl rfl (by omega) rfl ?_
            first | refine R.fldPtr Tryd.underlying32 rfl Tryd.sizeOf9 rfl (GOk.no rfl) rfl rfl ?_ | refine R.fldAt Tryd.underlying32 rfl Tryd.sizeOf9 rfl (GOk.no rfl) rfl rfl ?_ | refine R.fldEl Tryd.underlying32 rfl Tryd.sizeOf9 rfl (GOk.no rfl) rfl rfl ?_
            first | refine R.stP Tryd.sizeOf9 (GOk.no rfl) rfl rfl rfl rfl rfl (Nat.le_of_ble_eq_true rfl) ?_ | refine R.stPB Tryd.sizeOf9 (GOk.no rfl) rfl rfl rfl rfl rfl ?_ | refine R.stB Tryd.sizeOf9 (GOk.no rfl) rfl rfl rfl rfl (Nat.le_of_ble_eq_true rfl) ?_
            refine Run.nil ⟨by kernel_rfl, ?_⟩
            refine J.seq ?_
            refine J.region ?_
            first | refine R.fldPtr Tryd.underlying32 rfl Tryd.sizeOf9 rfl (GOk.no rfl) rfl rfl ?_ | refine R.fldAt Tryd.underlying32 rfl Tryd.sizeOf9 rfl (GOk.no rfl) rfl rfl ?_ | refine R.fldEl Tryd.underlying32 rfl Tryd.sizeOf9 rfl (GOk.no rfl) rfl rfl ?_
            first | refine R.ldP1 Tryd.isAgg9 (GOk.no rfl) rfl rfl rfl rfl ?_ | refine R.ldAt1 Tryd.isAgg9 (GOk.no rfl) rfl rfl rfl ?_ | refine R.ldB1 Tryd.isAgg9 (GOk.no rfl) rfl rfl rfl rfl ?_ | refine R.ldElM1 Tryd.isAgg9 (GOk.no rfl) rfl rfl rfl (by omega) rfl ?_
            refine R.call [((.tmp 34), _)] (con_21 l[k]!.text (by have := hT l[k]! (by rw [getElem!_pos l k (by omega)]; exact List.getElem_mem _); omega)) rfl (GOk.no rfl) rfl ⟨rfl, trivial⟩ ?_
            refine R.not (GOk.no rfl) rfl rfl ?_
            refine Run.nil ⟨by kernel_rfl, ?_⟩
            refine J.cond rfl (fun hc6 => ?_) (fun hc6 => ?_)
            · try simp only [decide_eq_true_eq, decide_eq_false_iff_not, beq_iff_eq, beq_eq_false_iff_ne, bne_iff_ne, bne_eq_false_iff_eq, ne_eq, Bool.not_eq_true', Bool.not_eq_false', Decidable.not_not, Int.toNat_natCast] at hc6
              refine J.seq ?_
              refine J.region ?_
              refine R.assign (GOk.no rfl) rfl rfl ?_
              refine Run.nil ⟨by kernel_rfl, ?_⟩
              refine J.ret ?_
              first | exact FinQ.of ⟨ret_eq rfl (svI (by have e : j = 0 := (by omega); subst e; rw [fstN])), trivial⟩ trivial | exact FinQ.of ⟨ret_eq rfl (svI (by rw [hM, if_pos (show l[k]!.same wn = true from hc2)])), trivial⟩ trivial | exact FinQ.of ⟨ret_eq rfl (svI (by rw [hM, if_neg (show ¬ (l[k]!.same wn = true) from by rw [hc2]; decide)])), trivial⟩ trivial | exact FinQ.of ⟨ret_eq rfl (svI (by omega)), trivial⟩ trivial | exact FinQ.of ⟨ret_eq rfl (svI (by rw [fstN]; simp [*, -List.getElem!_eq_getElem?_getD])), trivial⟩ trivial
            · try simp only [decide_eq_true_eq, decide_eq_false_iff_not, beq_iff_eq, beq_eq_false_iff_ne, bne_iff_ne, bne_eq_false_iff_eq, ne_eq, Bool.not_eq_true', Bool.not_eq_false', Decidable.not_not, Int.toNat_natCast] at hc6
              refine J.skip ?_
              first | (exfalso; omega) | exact toQ.mk (Gh.weak [(5, vC (.ptr 5 0)), (6, vC (.ptr 6 0)), (7, vI ((k : Int)))] [(5, some (.pbox (encN l[k]!))), (6, some (.pbox (encN { (default : Nd) with kind := l[k]!.kind })))] ⟨rfl, rfl, rfl, trivial⟩ ⟨rfl, rfl, trivial⟩) ⟨{ (default : Nd) with kind := l[k]!.kind }, (k : Int), by rw [fstN]; simp [*, -List.getElem!_eq_getElem?_getD], rfl, rfl⟩ | exact toQ.mk (Gh.weak [(5, vC (.ptr 5 0)), (6, vC (.ptr 6 0)), (7, vI ((k : Int)))] [(5, some (.pbox (encN l[k]!))), (6, some (.pbox (encN { (default : Nd) with kind := l[k]!.kind, cls := l[k]!.cls })))] ⟨rfl, rfl, rfl, trivial⟩ ⟨rfl, rfl, trivial⟩) ⟨{ (default : Nd) with kind := l[k]!.kind, cls := l[k]!.cls }, (k : Int), by rw [fstN]; simp [*, -List.getElem!_eq_getElem?_getD], rfl, rfl⟩ | exact toQ.mk (Gh.weak [(5, vC (.ptr 5 0)), (6, vC (.ptr 6 0)), (7, vI ((k : Int)))] [(5, some (.pbox (encN l[k]!))), (6, some (.pbox (encN { (default : Nd) with kind := l[k]!.kind, text := l[k]!.text })))] ⟨rfl, rfl, rfl, trivial⟩ ⟨rfl, rfl, trivial⟩) ⟨{ (default : Nd) with kind := l[k]!.kind, text := l[k]!.text }, (k : Int), by rw [fstN]; simp [*, -List.getElem!_eq_getElem?_getD], rfl, rfl⟩ | exact toQ.mk (Gh.weak [(5, vC (.ptr 5 0)), (6, vC (.ptr 6 0)), (7, vI (fstN l k))] [(5, some (.pbox (encN l[k]!))), (6, some (.pbox (encN { (default : Nd) with kind := l[k]!.kind, a := (k : Int) - 1 })))] ⟨rfl, rfl, rfl, trivial⟩ ⟨rfl, rfl, trivial⟩) ⟨{ (default : Nd) with kind := l[k]!.kind, a := (k : Int) - 1 }, fstN l k, by rw [fstN]; simp [*, -List.getElem!_eq_getElem?_getD], rfl, rfl⟩ | exact toQ.mk (Gh.weak [(5, vC (.ptr 5 0)), (6, vC (.ptr 6 0)), (7, vI (fstN l k))] [(5, some (.pbox (encN l[k]!))), (6, some (.pbox (encN { (default : Nd) with kind := l[k]!.kind, a := (k : Int) - 1, lo := l[k]!.lo, hi := l[k]!.hi })))] ⟨rfl, rfl, rfl, trivial⟩ ⟨rfl, rfl, trivial⟩) ⟨{ (default : Nd) with kind := l[k]!.kind, a := (k : Int) - 1, lo := l[k]!.lo, hi := l[k]!.hi }, fstN l k, by rw [fstN]; simp [*, -List.getElem!_eq_getElem?_getD], rfl, rfl⟩ | exact toQ.mk (Gh.weak [(5, vC (.ptr 5 0)), (6, vC (.ptr 6 0)), (7, vI (fstN l (fstN l k).toNat))] [(5, some (.pbox (encN l[k]!))), (6, some (.pbox (encN { (default : Nd) with kind := l[k]!.kind, b := (k : Int) - 1, a := fstN l k - 1 })))] ⟨rfl, rfl, rfl, trivial⟩ ⟨rfl, rfl, trivial⟩) ⟨{ (default : Nd) with kind := l[k]!.kind, b := (k : Int) - 1, a := fstN l k - 1 }, fstN l (fstN l k).toNat, by rw [fstN]; simp [*, -List.getElem!_eq_getElem?_getD], rfl, rfl⟩
          · try simp only [decide_eq_true_eq, decide_eq_false_iff_not, beq_iff_eq, beq_eq_false_iff_ne, bne_iff_ne, bne_eq_false_iff_eq, ne_eq, Bool.not_eq_true', Bool.not_eq_false', Decidable.not_not, Int.toNat_natCast] at hc5
            refine J.seq ?_
            refine J.seq ?_
            refine J.region ?_
            refine R.eql (GOk.no rfl) rfl rfl rfl ?_
            refine R.assign (GOk.no rfl) rfl rfl ?_
            refine Run.nil ⟨by kernel_rfl, ?_⟩
            refine J.cond rfl (fun hc7 => ?_) (fun hc7 => ?_)
            · try simp only [decide_eq_true_eq, decide_eq_false_iff_not, beq_iff_eq, beq_eq_false_iff_ne, bne_iff_ne, bne_eq_false_iff_eq, ne_eq, Bool.not_eq_true', Bool.not_eq_false', Decidable.not_not, Int.toNat_natCast] at hc7
              refine J.skip ?_
              refine J.cond rfl (fun hc8 => ?_) (fun hc8 => ?_)
              · try simp only [decide_eq_true_eq, decide_eq_false_iff_not, beq_iff_eq, beq_eq_false_iff_ne, bne_iff_ne, bne_eq_false_iff_eq, ne_eq, Bool.not_eq_true', Bool.not_eq_false', Decidable.not_not, Int.toNat_natCast] at hc8
                refine J.seq ?_
                refine J.region ?_
                refine R.move (GOk.no rfl) rfl rfl ?_
                refine R.sub (GOk.no rfl) rfl rfl rfl ⟨by omega, by omega⟩ ?_
                first | refine R.fldPtr Tryd.underlying32 rfl Tryd.sizeOf3 rfl (GOk.no rfl) rfl rfl ?_ | refine R.fldAt Tryd.underlying32 rfl Tryd.sizeOf3 rfl (GOk.no rfl) rfl rfl ?_ | refine R.fldEl Tryd.underlying32 rfl Tryd.sizeOf3 rfl (GOk.no rfl) rfl rfl ?_
                first | refine R.stP Tryd.sizeOf3 (GOk.no rfl) rfl rfl rfl rfl rfl (Nat.le_of_ble_eq_true rfl) ?_ | refine R.stPB Tryd.sizeOf3 (GOk.no rfl) rfl rfl rfl rfl rfl ?_ | refine R.stB Tryd.sizeOf3 (GOk.no rfl) rfl rfl rfl rfl (Nat.le_of_ble_eq_true rfl) ?_
                refine Run.nil ⟨by kernel_rfl, ?_⟩
                refine J.seq ?_
                refine J.seq ?_
                refine J.region ?_
                first | refine R.fldPtr Tryd.underlying32 rfl Tryd.sizeOf3 rfl (GOk.no rfl) rfl rfl ?_ | refine R.fldAt Tryd.underlying32 rfl Tryd.sizeOf3 rfl (GOk.no rfl) rfl rfl ?_ | refine R.fldEl Tryd.underlying32 rfl Tryd.sizeOf3 rfl (GOk.no rfl) rfl rfl ?_
                first | refine R.ldP1 Tryd.isAgg3 (GOk.no rfl) rfl rfl rfl rfl ?_ | refine R.ldAt1 Tryd.isAgg3 (GOk.no rfl) rfl rfl rfl ?_ | refine R.ldB1 Tryd.isAgg3 (GOk.no rfl) rfl rfl rfl rfl ?_ | refine R.ldElM1 Tryd.isAgg3 (GOk.no rfl) rfl rfl rfl (by omega) rfl ?_
                refine R.eql (GOk.no rfl) rfl rfl rfl ?_
                refine Run.nil ⟨by kernel_rfl, ?_⟩
                refine J.cond rfl (fun hc9 => ?_) (fun hc9 => ?_)
                · try simp only [decide_eq_true_eq, decide_eq_false_iff_not, beq_iff_eq, beq_eq_false_iff_ne, bne_iff_ne, bne_eq_false_iff_eq, ne_eq, Bool.not_eq_true', Bool.not_eq_false', Decidable.not_not, Int.toNat_natCast] at hc9
                  refine J.seq ?_
                  refine J.region ?_
                  first | refine R.fldPtr Tryd.underlying32 rfl Tryd.sizeOf3 rfl (GOk.no rfl) rfl rfl ?_ | refine R.fldAt Tryd.underlying32 rfl Tryd.sizeOf3 rfl (GOk.no rfl) rfl rfl ?_ | refine R.fldEl Tryd.underlying32 rfl Tryd.sizeOf3 rfl (GOk.no rfl) rfl rfl ?_
                  first | refine R.ldP1 Tryd.isAgg3 (GOk.no rfl) rfl rfl rfl rfl ?_ | refine R.ldAt1 Tryd.isAgg3 (GOk.no rfl) rfl rfl rfl ?_ | refine R.ldB1 Tryd.isAgg3 (GOk.no rfl) rfl rfl rfl rfl ?_ | refine R.ldElM1 Tryd.isAgg3 (GOk.no rfl) rfl rfl rfl (by omega) rfl ?_
                  first | refine R.fldPtr Tryd.underlying32 rfl Tryd.sizeOf3 rfl (GOk.no rfl) rfl rfl ?_ | refine R.fldAt Tryd.underlying32 rfl Tryd.sizeOf3 rfl (GOk.no rfl) rfl rfl ?_ | refine R.fldEl Tryd.underlying32 rfl Tryd.sizeOf3 rfl (GOk.no rfl) rfl rfl ?_
                  first | refine R.stP Tryd.sizeOf3 (GOk.no rfl) rfl rfl rfl rfl rfl (Nat.le_of_ble_eq_true rfl) ?_ | refine R.stPB Tryd.sizeOf3 (GOk.no rfl) rfl rfl rfl rfl rfl ?_ | refine R.stB Tryd.sizeOf3 (GOk.no rfl) rfl rfl rfl rfl (Nat.le_of_ble_eq_true rfl) ?_
                  refine Run.nil ⟨by kernel_rfl, ?_⟩
                  refine J.seq ?_
                  refine J.region ?_
                  first | refine R.fldPtr Tryd.underlying32 rfl Tryd.sizeOf3 rfl (GOk.no rfl) rfl rfl ?_ | refine R.fldAt Tryd.underlying32 rfl Tryd.sizeOf3 rfl (GOk.no rfl) rfl rfl ?_ | refine R.fldEl Tryd.underlying32 rfl Tryd.sizeOf3 rfl (GOk.no rfl) rfl rfl ?_
                  first | refine R.ldP1 Tryd.isAgg3 (GOk.no rfl) rfl rfl rfl rfl ?_ | refine R.ldAt1 Tryd.isAgg3 (GOk.no rfl) rfl rfl rfl ?_ | refine R.ldB1 Tryd.isAgg3 (GOk.no rfl) rfl rfl rfl rfl ?_ | refine R.ldElM1 Tryd.isAgg3 (GOk.no rfl) rfl rfl rfl (by omega) rfl ?_
                  first | refine R.fldPtr Tryd.underlying32 rfl Tryd.sizeOf3 rfl (GOk.no rfl) rfl rfl ?_ | refine R.fldAt Tryd.underlying32 rfl Tryd.sizeOf3 rfl (GOk.no rfl) rfl rfl ?_ | refine R.fldEl Tryd.underlying32 rfl Tryd.sizeOf3 rfl (GOk.no rfl) rfl rfl ?_
                  first | refine R.stP Tryd.sizeOf3 (GOk.no rfl) rfl rfl rfl rfl rfl (Nat.le_of_ble_eq_true rfl) ?_ | refine R.stPB Tryd.sizeOf3 (GOk.no rfl) rfl rfl rfl rfl rfl ?_ | refine R.stB Tryd.sizeOf3 (GOk.no rfl) rfl rfl rfl rfl (Nat.le_of_ble_eq_true rfl) ?_
                  refine Run.nil ⟨by kernel_rfl, ?_⟩
                  refine J.seq ?_
                  refine J.region ?_
                  first | refine R.fldPtr Tryd.underlying32 rfl Tryd.sizeOf3 rfl (GOk.no rfl) rfl rfl ?_ | refine R.fldAt Tryd.underlying32 rfl Tryd.sizeOf3 rfl (GOk.no rfl) rfl rfl ?_ | refine R.fldEl Tryd.underlying32 rfl Tryd.sizeOf3 rfl (GOk.no rfl) rfl rfl ?_
                  first | refine R.ldP1 Tryd.isAgg3 (GOk.no rfl) rfl rfl rfl rfl ?_ | refine R.ldAt1 Tryd.isAgg3 (GOk.no rfl) rfl rfl rfl ?_ | refine R.ldB1 Tryd.isAgg3 (GOk.no rfl) rfl rfl rfl rfl ?_ | refine R.ldElM1 Tryd.isAgg3 (GOk.no rfl) rfl rfl rfl (by omega) rfl ?_
                  refine R.lss (GOk.no rfl) rfl rfl rfl ?_
                  refine R.move (GOk.no rfl) rfl rfl ?_
                  refine R.case 57 rfl (fun hg10 => ?_) (fun hg10 => ?_)
                  · try simp only [decide_eq_true_eq, decide_eq_false_iff_not, beq_iff_eq, beq_eq_false_iff_ne, bne_iff_ne, bne_eq_false_iff_eq, ne_eq, Bool.not_eq_true', Bool.not_eq_false', Decidable.not_not, Int.toNat_natCast] at hg10
                    refine R.pass (GOk.of rfl rfl rfl _ rfl) rfl ?_
                    refine R.pass (GOk.of rfl rfl rfl _ rfl) rfl ?_
                    refine R.pass (GOk.of rfl rfl rfl _ rfl) rfl ?_
                    refine R.pass (GOk.of rfl rfl rfl _ rfl) rfl ?_
                    refine R.pass (GOk.of rfl rfl rfl _ rfl) rfl ?_
                    first | refine R.pickT (GOk.no rfl) rfl rfl rfl ?_ | refine R.pickF (GOk.no rfl) rfl rfl rfl ?_
                    refine R.move (GOk.no rfl) rfl rfl ?_
                    refine R.pass (GOk.of rfl rfl rfl _ rfl) rfl ?_
                    refine R.pass (GOk.of rfl rfl rfl _ rfl) rfl ?_
                    refine R.pass (GOk.of rfl rfl rfl _ rfl) rfl ?_
                    first | refine R.pickT (GOk.no rfl) rfl rfl rfl ?_ | refine R.pickF (GOk.no rfl) rfl rfl rfl ?_
                    refine Run.nil ⟨by kernel_rfl, ?_⟩
                    refine J.condT rfl ?_
                    refine J.seq ?_
                    refine J.region ?_
                    refine R.assign (GOk.no rfl) rfl rfl ?_
                    refine Run.nil ⟨by kernel_rfl, ?_⟩
                    refine J.ret ?_
                    first | exact FinQ.of ⟨ret_eq rfl (svI (by have e : j = 0 := (by omega); subst e; rw [fstN])), trivial⟩ trivial | exact FinQ.of ⟨ret_eq rfl (svI (by rw [hM, if_pos (show l[k]!.same wn = true from hc2)])), trivial⟩ trivial | exact FinQ.of ⟨ret_eq rfl (svI (by rw [hM, if_neg (show ¬ (l[k]!.same wn = true) from by rw [hc2]; decide)])), trivial⟩ trivial | exact FinQ.of ⟨ret_eq rfl (svI (by omega)), trivial⟩ trivial | exact FinQ.of ⟨ret_eq rfl (svI (by rw [fstN]; simp [*, -List.getElem!_eq_getElem?_getD])), trivial⟩ trivial
                  · try simp only [decide_eq_true_eq, decide_eq_false_iff_not, beq_iff_eq, beq_eq_false_iff_ne, bne_iff_ne, bne_eq_false_iff_eq, ne_eq, Bool.not_eq_true', Bool.not_eq_false', Decidable.not_not, Int.toNat_natCast] at hg10
                    first | refine R.fldPtr Tryd.underlying32 rfl Tryd.sizeOf3 rfl (GOk.of rfl rfl rfl _ rfl) rfl rfl ?_ | refine R.fldAt Tryd.underlying32 rfl Tryd.sizeOf3 rfl (GOk.of rfl rfl rfl _ rfl) rfl rfl ?_ | refine R.fldEl Tryd.underlying32 rfl Tryd.sizeOf3 rfl (GOk.of rfl rfl rfl _ rfl) rfl rfl ?_
                    first | refine R.ldP1 Tryd.isAgg3 (GOk.of rfl rfl rfl _ rfl) rfl rfl rfl rfl ?_ | refine R.ldAt1 Tryd.isAgg3 (GOk.of rfl rfl rfl _ rfl) rfl rfl rfl ?_ | refine R.ldB1 Tryd.isAgg3 (GOk.of rfl rfl rfl _ rfl) rfl rfl rfl rfl ?_ | refine R.ldElM1 Tryd.isAgg3 (GOk.of rfl rfl rfl _ rfl) rfl rfl rfl (by omega) rfl ?_
                    first | refine R.fldPtr Tryd.underlying32 rfl Tryd.sizeOf3 rfl (GOk.of rfl rfl rfl _ rfl) rfl rfl ?_ | refine R.fldAt Tryd.underlying32 rfl Tryd.sizeOf3 rfl (GOk.of rfl rfl rfl _ rfl) rfl rfl ?_ | refine R.fldEl Tryd.underlying32 rfl Tryd.sizeOf3 rfl (GOk.of rfl rfl rfl _ rfl) rfl rfl ?_
                    first | refine R.ldP1 Tryd.isAgg3 (GOk.of rfl rfl rfl _ rfl) rfl rfl rfl rfl ?_ | refine R.ldAt1 Tryd.isAgg3 (GOk.of rfl rfl rfl _ rfl) rfl rfl rfl ?_ | refine R.ldB1 Tryd.isAgg3 (GOk.of rfl rfl rfl _ rfl) rfl rfl rfl rfl ?_ | refine R.ldElM1 Tryd.isAgg3 (GOk.of rfl rfl rfl _ rfl) rfl rfl rfl (by omega) rfl ?_
                    refine R.gtr (GOk.of rfl rfl rfl _ rfl) rfl rfl rfl ?_
                    first | refine R.pickT (GOk.no rfl) rfl rfl rfl ?_ | refine R.pickF (GOk.no rfl) rfl rfl rfl ?_
                    refine R.move (GOk.no rfl) rfl rfl ?_
                    refine R.case 64 rfl (fun hg11 => ?_) (fun hg11 => ?_)
                    · try simp only [decide_eq_true_eq, decide_eq_false_iff_not, beq_iff_eq, beq_eq_false_iff_ne, bne_iff_ne, bne_eq_false_iff_eq, ne_eq, Bool.not_eq_true', Bool.not_eq_false', Decidable.not_not, Int.toNat_natCast] at hg11
                      refine R.pass (GOk.of rfl rfl rfl _ rfl) rfl ?_
                      refine R.pass (GOk.of rfl rfl rfl _ rfl) rfl ?_
                      refine R.pass (GOk.of rfl rfl rfl _ rfl) rfl ?_
                      first | refine R.pickT (GOk.no rfl) rfl rfl rfl ?_ | refine R.pickF (GOk.no rfl) rfl rfl rfl ?_
                      refine Run.nil ⟨by kernel_rfl, ?_⟩
                      refine J.condT rfl ?_
                      refine J.seq ?_
                      refine J.region ?_
                      refine R.assign (GOk.no rfl) rfl rfl ?_
                      refine Run.nil ⟨by kernel_rfl, ?_⟩
                      refine J.ret ?_
                      first | exact FinQ.of ⟨ret_eq rfl (svI (by have e : j = 0 := (by omega); subst e; rw [fstN])), trivial⟩ trivial | exact FinQ.of ⟨ret_eq rfl (svI (by rw [hM, if_pos (show l[k]!.same wn = true from hc2)])), trivial⟩ trivial | exact FinQ.of ⟨ret_eq rfl (svI (by rw [hM, if_neg (show ¬ (l[k]!.same wn = true) from by rw [hc2]; decide)])), trivial⟩ trivial | exact FinQ.of ⟨ret_eq rfl (svI (by omega)), trivial⟩ trivial | exact FinQ.of ⟨ret_eq rfl (svI (by rw [fstN]; simp [*, -List.getElem!_eq_getElem?_getD])), trivial⟩ trivial
                    · try simp only [decide_eq_true_eq, decide_eq_false_iff_not, beq_iff_eq, beq_eq_false_iff_ne, bne_iff_ne, bne_eq_false_iff_eq, ne_eq, Bool.not_eq_true', Bool.not_eq_false', Decidable.not_not, Int.toNat_natCast] at hg11
                      first | refine R.fldPtr Tryd.underlying32 rfl Tryd.sizeOf3 rfl (GOk.of rfl rfl rfl _ rfl) rfl rfl ?_ | refine R.fldAt Tryd.underlying32 rfl Tryd.sizeOf3 rfl (GOk.of rfl rfl rfl _ rfl) rfl rfl ?_ | refine R.fldEl Tryd.underlying32 rfl Tryd.sizeOf3 rfl (GOk.of rfl rfl rfl _ rfl) rfl rfl ?_
                      first | refine R.ldP1 Tryd.isAgg3 (GOk.of rfl rfl rfl _ rfl) rfl rfl rfl rfl ?_ | refine R.ldAt1 Tryd.isAgg3 (GOk.of rfl rfl rfl _ rfl) rfl rfl rfl ?_ | refine R.ldB1 Tryd.isAgg3 (GOk.of rfl rfl rfl _ rfl) rfl rfl rfl rfl ?_ | refine R.ldElM1 Tryd.isAgg3 (GOk.of rfl rfl rfl _ rfl) rfl rfl rfl (by omega) rfl ?_
                      refine R.gtr (GOk.of rfl rfl rfl _ rfl) rfl rfl rfl ?_
                      first | refine R.pickT (GOk.no rfl) rfl rfl rfl ?_ | refine R.pickF (GOk.no rfl) rfl rfl rfl ?_
                      refine Run.nil ⟨by kernel_rfl, ?_⟩
                      refine J.cond rfl (fun hc12 => ?_) (fun hc12 => ?_)
                      · try simp only [decide_eq_true_eq, decide_eq_false_iff_not, beq_iff_eq, beq_eq_false_iff_ne, bne_iff_ne, bne_eq_false_iff_eq, ne_eq, Bool.not_eq_true', Bool.not_eq_false', Decidable.not_not, Int.toNat_natCast] at hc12
                        refine J.seq ?_
                        refine J.region ?_
                        refine R.assign (GOk.no rfl) rfl rfl ?_
                        refine Run.nil ⟨by kernel_rfl, ?_⟩
                        refine J.ret ?_
                        first | exact FinQ.of ⟨ret_eq rfl (svI (by have e : j = 0 := (by omega); subst e; rw [fstN])), trivial⟩ trivial | exact FinQ.of ⟨ret_eq rfl (svI (by rw [hM, if_pos (show l[k]!.same wn = true from hc2)])), trivial⟩ trivial | exact FinQ.of ⟨ret_eq rfl (svI (by rw [hM, if_neg (show ¬ (l[k]!.same wn = true) from by rw [hc2]; decide)])), trivial⟩ trivial | exact FinQ.of ⟨ret_eq rfl (svI (by omega)), trivial⟩ trivial | exact FinQ.of ⟨ret_eq rfl (svI (by rw [fstN]; simp [*, -List.getElem!_eq_getElem?_getD])), trivial⟩ trivial
                      · try simp only [decide_eq_true_eq, decide_eq_false_iff_not, beq_iff_eq, beq_eq_false_iff_ne, bne_iff_ne, bne_eq_false_iff_eq, ne_eq, Bool.not_eq_true', Bool.not_eq_false', Decidable.not_not, Int.toNat_natCast] at hc12
                        refine J.skip ?_
                        refine J.region ?_
                        refine R.move (GOk.no rfl) rfl rfl ?_
                        refine R.move (GOk.no rfl) rfl rfl ?_
                        refine R.sub (GOk.no rfl) rfl rfl rfl ⟨by omega, by omega⟩ ?_
                        refine R.call [((.tmp 69), _), ((.tmp 71), _)] (ih k (by omega) (by omega)) rfl (GOk.no rfl) rfl ⟨rfl, rfl, trivial⟩ ?_
                        refine R.assign (GOk.no rfl) rfl rfl ?_
                        refine Run.nil ⟨by kernel_rfl, ?_⟩
                        first | (exfalso; omega) | exact toQ.mk (Gh.weak [(5, vC (.ptr 5 0)), (6, vC (.ptr 6 0)), (7, vI ((k : Int)))] [(5, some (.pbox (encN l[k]!))), (6, some (.pbox (encN { (default : Nd) with kind := l[k]!.kind })))] ⟨rfl, rfl, rfl, trivial⟩ ⟨rfl, rfl, trivial⟩) ⟨{ (default : Nd) with kind := l[k]!.kind }, (k : Int), by rw [fstN]; simp [*, -List.getElem!_eq_getElem?_getD], rfl, rfl⟩ | exact toQ.mk (Gh.weak [(5, vC (.ptr 5 0)), (6, vC (.ptr 6 0)), (7, vI ((k : Int)))] [(5, some (.pbox (encN l[k]!))), (6, some (.pbox (encN { (default : Nd) with kind := l[k]!.kind, cls := l[k]!.cls })))] ⟨rfl, rfl, rfl, trivial⟩ ⟨rfl, rfl, trivial⟩) ⟨{ (default : Nd) with kind := l[k]!.kind, cls := l[k]!.cls }, (k : Int), by rw [fstN]; simp [*, -List.getElem!_eq_getElem?_getD], rfl, rfl⟩ | exact toQ.mk (Gh.weak [(5, vC (.ptr 5 0)), (6, vC (.ptr 6 0)), (7, vI ((k : Int)))] [(5, some (.pbox (encN l[k]!))), (6, some (.pbox (encN { (default : Nd) with kind := l[k]!.kind, text := l[k]!.text })))] ⟨rfl, rfl, rfl, trivial⟩ ⟨rfl, rfl, trivial⟩) ⟨{ (default : Nd) with kind := l[k]!.kind, text := l[k]!.text }, (k : Int), by rw [fstN]; simp [*, -List.getElem!_eq_getElem?_getD], rfl, rfl⟩ | exact toQ.mk (Gh.weak [(5, vC (.ptr 5 0)), (6, vC (.ptr 6 0)), (7, vI (fstN l k))] [(5, some (.pbox (encN l[k]!))), (6, some (.pbox (encN { (default : Nd) with kind := l[k]!.kind, a := (k : Int) - 1 })))] ⟨rfl, rfl, rfl, trivial⟩ ⟨rfl, rfl, trivial⟩) ⟨{ (default : Nd) with kind := l[k]!.kind, a := (k : Int) - 1 }, fstN l k, by rw [fstN]; simp [*, -List.getElem!_eq_getElem?_getD], rfl, rfl⟩ | exact toQ.mk (Gh.weak [(5, vC (.ptr 5 0)), (6, vC (.ptr 6 0)), (7, vI (fstN l k))] [(5, some (.pbox (encN l[k]!))), (6, some (.pbox (encN { (default : Nd) with kind := l[k]!.kind, a := (k : Int) - 1, lo := l[k]!.lo, hi := l[k]!.hi })))] ⟨rfl, rfl, rfl, trivial⟩ ⟨rfl, rfl, trivial⟩) ⟨{ (default : Nd) with kind := l[k]!.kind, a := (k : Int) - 1, lo := l[k]!.lo, hi := l[k]!.hi }, fstN l k, by rw [fstN]; simp [*, -List.getElem!_eq_getElem?_getD], rfl, rfl⟩ | exact toQ.mk (Gh.weak [(5, vC (.ptr 5 0)), (6, vC (.ptr 6 0)), (7, vI (fstN l (fstN l k).toNat))] [(5, some (.pbox (encN l[k]!))), (6, some (.pbox (encN { (default : Nd) with kind := l[k]!.kind, b := (k : Int) - 1, a := fstN l k - 1 })))] ⟨rfl, rfl, rfl, trivial⟩ ⟨rfl, rfl, trivial⟩) ⟨{ (default : Nd) with kind := l[k]!.kind, b := (k : Int) - 1, a := fstN l k - 1 }, fstN l (fstN l k).toNat, by rw [fstN]; simp [*, -List.getElem!_eq_getElem?_getD], rfl, rfl⟩
                · try simp only [decide_eq_true_eq, decide_eq_false_iff_not, beq_iff_eq, beq_eq_false_iff_ne, bne_iff_ne, bne_eq_false_iff_eq, ne_eq, Bool.not_eq_true', Bool.not_eq_false', Decidable.not_not, Int.toNat_natCast] at hc9
                  refine J.skip ?_
                  refine J.region ?_
                  refine R.move (GOk.no rfl) rfl rfl ?_
                  refine R.move (GOk.no rfl) rfl rfl ?_
                  refine R.sub (GOk.no rfl) rfl rfl rfl ⟨by omega, by omega⟩ ?_
                  refine R.call [((.tmp 69), _), ((.tmp 71), _)] (ih k (by omega) (by omega)) rfl (GOk.no rfl) rfl ⟨rfl, rfl, trivial⟩ ?_
                  refine R.assign (GOk.no rfl) rfl rfl ?_
                  refine Run.nil ⟨by kernel_rfl, ?_⟩
                  first | (exfalso; omega) | exact toQ.mk (Gh.weak [(5, vC (.ptr 5 0)), (6, vC (.ptr 6 0)), (7, vI ((k : Int)))] [(5, some (.pbox (encN l[k]!))), (6, some (.pbox (encN { (default : Nd) with kind := l[k]!.kind })))] ⟨rfl, rfl, rfl, trivial⟩ ⟨rfl, rfl, trivial⟩) ⟨{ (default : Nd) with kind := l[k]!.kind }, (k : Int), by rw [fstN]; simp [*, -List.getElem!_eq_getElem?_getD], rfl, rfl⟩ | exact toQ.mk (Gh.weak [(5, vC (.ptr 5 0)), (6, vC (.ptr 6 0)), (7, vI ((k : Int)))] [(5, some (.pbox (encN l[k]!))), (6, some (.pbox (encN { (default : Nd) with kind := l[k]!.kind, cls := l[k]!.cls })))] ⟨rfl, rfl, rfl, trivial⟩ ⟨rfl, rfl, trivial⟩) ⟨{ (default : Nd) with kind := l[k]!.kind, cls := l[k]!.cls }, (k : Int), by rw [fstN]; simp [*, -List.getElem!_eq_getElem?_getD], rfl, rfl⟩ | exact toQ.mk (Gh.weak [(5, vC (.ptr 5 0)), (6, vC (.ptr 6 0)), (7, vI ((k : Int)))] [(5, some (.pbox (encN l[k]!))), (6, some (.pbox (encN { (default : Nd) with kind := l[k]!.kind, text := l[k]!.text })))] ⟨rfl, rfl, rfl, trivial⟩ ⟨rfl, rfl, trivial⟩) ⟨{ (default : Nd) with kind := l[k]!.kind, text := l[k]!.text }, (k : Int), by rw [fstN]; simp [*, -List.getElem!_eq_getElem?_getD], rfl, rfl⟩ | exact toQ.mk (Gh.weak [(5, vC (.ptr 5 0)), (6, vC (.ptr 6 0)), (7, vI (fstN l k))] [(5, some (.pbox (encN l[k]!))), (6, some (.pbox (encN { (default : Nd) with kind := l[k]!.kind, a := (k : Int) - 1 })))] ⟨rfl, rfl, rfl, trivial⟩ ⟨rfl, rfl, trivial⟩) ⟨{ (default : Nd) with kind := l[k]!.kind, a := (k : Int) - 1 }, fstN l k, by rw [fstN]; simp [*, -List.getElem!_eq_getElem?_getD], rfl, rfl⟩ | exact toQ.mk (Gh.weak [(5, vC (.ptr 5 0)), (6, vC (.ptr 6 0)), (7, vI (fstN l k))] [(5, some (.pbox (encN l[k]!))), (6, some (.pbox (encN { (default : Nd) with kind := l[k]!.kind, a := (k : Int) - 1, lo := l[k]!.lo, hi := l[k]!.hi })))] ⟨rfl, rfl, rfl, trivial⟩ ⟨rfl, rfl, trivial⟩) ⟨{ (default : Nd) with kind := l[k]!.kind, a := (k : Int) - 1, lo := l[k]!.lo, hi := l[k]!.hi }, fstN l k, by rw [fstN]; simp [*, -List.getElem!_eq_getElem?_getD], rfl, rfl⟩ | exact toQ.mk (Gh.weak [(5, vC (.ptr 5 0)), (6, vC (.ptr 6 0)), (7, vI (fstN l (fstN l k).toNat))] [(5, some (.pbox (encN l[k]!))), (6, some (.pbox (encN { (default : Nd) with kind := l[k]!.kind, b := (k : Int) - 1, a := fstN l k - 1 })))] ⟨rfl, rfl, rfl, trivial⟩ ⟨rfl, rfl, trivial⟩) ⟨{ (default : Nd) with kind := l[k]!.kind, b := (k : Int) - 1, a := fstN l k - 1 }, fstN l (fstN l k).toNat, by rw [fstN]; simp [*, -List.getElem!_eq_getElem?_getD], rfl, rfl⟩
              · try simp only [decide_eq_true_eq, decide_eq_false_iff_not, beq_iff_eq, beq_eq_false_iff_ne, bne_iff_ne, bne_eq_false_iff_eq, ne_eq, Bool.not_eq_true', Bool.not_eq_false', Decidable.not_not, Int.toNat_natCast] at hc8
                refine J.seq ?_
                refine J.seq ?_
                refine J.region ?_
                refine R.eql (GOk.no rfl) rfl rfl rfl ?_
                refine R.assign (GOk.no rfl) rfl rfl ?_
                refine Run.nil ⟨by kernel_rfl, ?_⟩
                refine J.cond rfl (fun hc13 => ?_) (fun hc13 => ?_)
                · try simp only [decide_eq_true_eq, decide_eq_false_iff_not, beq_iff_eq, beq_eq_false_iff_ne, bne_iff_ne, bne_eq_false_iff_eq, ne_eq, Bool.not_eq_true', Bool.not_eq_false', Decidable.not_not, Int.toNat_natCast] at hc13
                  refine J.skip ?_
                  refine J.cond rfl (fun hc14 => ?_) (fun hc14 => ?_)
                  · try simp only [decide_eq_true_eq, decide_eq_false_iff_not, beq_iff_eq, beq_eq_false_iff_ne, bne_iff_ne, bne_eq_false_iff_eq, ne_eq, Bool.not_eq_true', Bool.not_eq_false', Decidable.not_not, Int.toNat_natCast] at hc14
                    refine J.seq ?_
                    refine J.region ?_
                    refine R.move (GOk.no rfl) rfl rfl ?_
                    refine R.sub (GOk.no rfl) rfl rfl rfl ⟨by omega, by omega⟩ ?_
                    first | refine R.fldPtr Tryd.underlying32 rfl Tryd.sizeOf3 rfl (GOk.no rfl) rfl rfl ?_ | refine R.fldAt Tryd.underlying32 rfl Tryd.sizeOf3 rfl (GOk.no rfl) rfl rfl ?_ | refine R.fldEl Tryd.underlying32 rfl Tryd.sizeOf3 rfl (GOk.no rfl) rfl rfl ?_
                    first | refine R.stP Tryd.sizeOf3 (GOk.no rfl) rfl rfl rfl rfl rfl (Nat.le_of_ble_eq_true rfl) ?_ | refine R.stPB Tryd.sizeOf3 (GOk.no rfl) rfl rfl rfl rfl rfl ?_ | refine R.stB Tryd.sizeOf3 (GOk.no rfl) rfl rfl rfl rfl (Nat.le_of_ble_eq_true rfl) ?_
                    refine Run.nil ⟨by kernel_rfl, ?_⟩
                    refine J.seq ?_
                    refine J.region ?_
                    refine R.move (GOk.no rfl) rfl rfl ?_
                    refine R.move (GOk.no rfl) rfl rfl ?_
                    refine R.sub (GOk.no rfl) rfl rfl rfl ⟨by omega, by omega⟩ ?_
                    refine R.call [((.tmp 79), _), ((.tmp 81), _)] (ih k (by omega) (by omega)) rfl (GOk.no rfl) rfl ⟨rfl, rfl, trivial⟩ ?_
                    refine R.assign (GOk.no rfl) rfl rfl ?_
                    refine Run.nil ⟨by kernel_rfl, ?_⟩
                    refine J.seq ?_
                    refine J.seq ?_
                    refine J.region ?_
                    refine R.move (GOk.no rfl) rfl rfl ?_
                    refine R.lss (GOk.no rfl) rfl rfl rfl ?_
                    refine Run.nil ⟨by kernel_rfl, ?_⟩
                    refine J.cond rfl (fun hc15 => ?_) (fun hc15 => ?_)
                    · try simp only [decide_eq_true_eq, decide_eq_false_iff_not, beq_iff_eq, beq_eq_false_iff_ne, bne_iff_ne, bne_eq_false_iff_eq, ne_eq, Bool.not_eq_true', Bool.not_eq_false', Decidable.not_not, Int.toNat_natCast] at hc15
                      refine J.seq ?_
                      refine J.region ?_
                      refine R.assign (GOk.no rfl) rfl rfl ?_
                      refine Run.nil ⟨by kernel_rfl, ?_⟩
                      refine J.ret ?_
                      first | exact FinQ.of ⟨ret_eq rfl (svI (by have e : j = 0 := (by omega); subst e; rw [fstN])), trivial⟩ trivial | exact FinQ.of ⟨ret_eq rfl (svI (by rw [hM, if_pos (show l[k]!.same wn = true from hc2)])), trivial⟩ trivial | exact FinQ.of ⟨ret_eq rfl (svI (by rw [hM, if_neg (show ¬ (l[k]!.same wn = true) from by rw [hc2]; decide)])), trivial⟩ trivial | exact FinQ.of ⟨ret_eq rfl (svI (by omega)), trivial⟩ trivial | exact FinQ.of ⟨ret_eq rfl (svI (by rw [fstN]; simp [*, -List.getElem!_eq_getElem?_getD])), trivial⟩ trivial
                    · try simp only [decide_eq_true_eq, decide_eq_false_iff_not, beq_iff_eq, beq_eq_false_iff_ne, bne_iff_ne, bne_eq_false_iff_eq, ne_eq, Bool.not_eq_true', Bool.not_eq_false', Decidable.not_not, Int.toNat_natCast] at hc15
                      refine J.skip ?_
                      refine J.seq ?_
                      refine J.region ?_
                      refine R.move (GOk.no rfl) rfl rfl ?_
                      refine R.sub (GOk.no rfl) rfl rfl rfl ⟨by omega, by omega⟩ ?_
                      first | refine R.fldPtr Tryd.underlying32 rfl Tryd.sizeOf3 rfl (GOk.no rfl) rfl rfl ?_ | refine R.fldAt Tryd.underlying32 rfl Tryd.sizeOf3 rfl (GOk.no rfl) rfl rfl ?_ | refine R.fldEl Tryd.underlying32 rfl Tryd.sizeOf3 rfl (GOk.no rfl) rfl rfl ?_
                      first | refine R.stP Tryd.sizeOf3 (GOk.no rfl) rfl rfl rfl rfl rfl (Nat.le_of_ble_eq_true rfl) ?_ | refine R.stPB Tryd.sizeOf3 (GOk.no rfl) rfl rfl rfl rfl rfl ?_ | refine R.stB Tryd.sizeOf3 (GOk.no rfl) rfl rfl rfl rfl (Nat.le_of_ble_eq_true rfl) ?_
                      refine Run.nil ⟨by kernel_rfl, ?_⟩
                      refine J.region ?_
                      refine R.move (GOk.no rfl) rfl rfl ?_
                      refine R.move (GOk.no rfl) rfl rfl ?_
                      refine R.sub (GOk.no rfl) rfl rfl rfl ⟨by omega, by omega⟩ ?_
                      refine R.spell 90 rfl (show _ = vI (((fstN l k).toNat : Nat) - 1 : Int) from vI_eq (by omega)) ?_
                      refine R.call [((.tmp 88), _), ((.tmp 90), _)] (ih (fstN l k).toNat (by omega) (by omega)) rfl (GOk.no rfl) rfl ⟨rfl, rfl, trivial⟩ ?_
                      refine R.assign (GOk.no rfl) rfl rfl ?_
                      refine Run.nil ⟨by kernel_rfl, ?_⟩
                      first | (exfalso; omega) | exact toQ.mk (Gh.weak [(5, vC (.ptr 5 0)), (6, vC (.ptr 6 0)), (7, vI ((k : Int)))] [(5, some (.pbox (encN l[k]!))), (6, some (.pbox (encN { (default : Nd) with kind := l[k]!.kind })))] ⟨rfl, rfl, rfl, trivial⟩ ⟨rfl, rfl, trivial⟩) ⟨{ (default : Nd) with kind := l[k]!.kind }, (k : Int), by rw [fstN]; simp [*, -List.getElem!_eq_getElem?_getD], rfl, rfl⟩ | exact toQ.mk (Gh.weak [(5, vC (.ptr 5 0)), (6, vC (.ptr 6 0)), (7, vI ((k : Int)))] [(5, some (.pbox (encN l[k]!))), (6, some (.pbox (encN { (default : Nd) with kind := l[k]!.kind, cls := l[k]!.cls })))] ⟨rfl, rfl, rfl, trivial⟩ ⟨rfl, rfl, trivial⟩) ⟨{ (default : Nd) with kind := l[k]!.kind, cls := l[k]!.cls }, (k : Int), by rw [fstN]; simp [*, -List.getElem!_eq_getElem?_getD], rfl, rfl⟩ | exact toQ.mk (Gh.weak [(5, vC (.ptr 5 0)), (6, vC (.ptr 6 0)), (7, vI ((k : Int)))] [(5, some (.pbox (encN l[k]!))), (6, some (.pbox (encN { (default : Nd) with kind := l[k]!.kind, text := l[k]!.text })))] ⟨rfl, rfl, rfl, trivial⟩ ⟨rfl, rfl, trivial⟩) ⟨{ (default : Nd) with kind := l[k]!.kind, text := l[k]!.text }, (k : Int), by rw [fstN]; simp [*, -List.getElem!_eq_getElem?_getD], rfl, rfl⟩ | exact toQ.mk (Gh.weak [(5, vC (.ptr 5 0)), (6, vC (.ptr 6 0)), (7, vI (fstN l k))] [(5, some (.pbox (encN l[k]!))), (6, some (.pbox (encN { (default : Nd) with kind := l[k]!.kind, a := (k : Int) - 1 })))] ⟨rfl, rfl, rfl, trivial⟩ ⟨rfl, rfl, trivial⟩) ⟨{ (default : Nd) with kind := l[k]!.kind, a := (k : Int) - 1 }, fstN l k, by rw [fstN]; simp [*, -List.getElem!_eq_getElem?_getD], rfl, rfl⟩ | exact toQ.mk (Gh.weak [(5, vC (.ptr 5 0)), (6, vC (.ptr 6 0)), (7, vI (fstN l k))] [(5, some (.pbox (encN l[k]!))), (6, some (.pbox (encN { (default : Nd) with kind := l[k]!.kind, a := (k : Int) - 1, lo := l[k]!.lo, hi := l[k]!.hi })))] ⟨rfl, rfl, rfl, trivial⟩ ⟨rfl, rfl, trivial⟩) ⟨{ (default : Nd) with kind := l[k]!.kind, a := (k : Int) - 1, lo := l[k]!.lo, hi := l[k]!.hi }, fstN l k, by rw [fstN]; simp [*, -List.getElem!_eq_getElem?_getD], rfl, rfl⟩ | exact toQ.mk (Gh.weak [(5, vC (.ptr 5 0)), (6, vC (.ptr 6 0)), (7, vI (fstN l (fstN l k).toNat))] [(5, some (.pbox (encN l[k]!))), (6, some (.pbox (encN { (default : Nd) with kind := l[k]!.kind, b := (k : Int) - 1, a := fstN l k - 1 })))] ⟨rfl, rfl, rfl, trivial⟩ ⟨rfl, rfl, trivial⟩) ⟨{ (default : Nd) with kind := l[k]!.kind, b := (k : Int) - 1, a := fstN l k - 1 }, fstN l (fstN l k).toNat, by rw [fstN]; simp [*, -List.getElem!_eq_getElem?_getD], rfl, rfl⟩
                  · try simp only [decide_eq_true_eq, decide_eq_false_iff_not, beq_iff_eq, beq_eq_false_iff_ne, bne_iff_ne, bne_eq_false_iff_eq, ne_eq, Bool.not_eq_true', Bool.not_eq_false', Decidable.not_not, Int.toNat_natCast] at hc14
                    refine J.seq ?_
                    refine J.region ?_
                    refine R.assign (GOk.no rfl) rfl rfl ?_
                    refine Run.nil ⟨by kernel_rfl, ?_⟩
                    refine J.ret ?_
                    first | exact FinQ.of ⟨ret_eq rfl (svI (by have e : j = 0 := (by omega); subst e; rw [fstN])), trivial⟩ trivial | exact FinQ.of ⟨ret_eq rfl (svI (by rw [hM, if_pos (show l[k]!.same wn = true from hc2)])), trivial⟩ trivial | exact FinQ.of ⟨ret_eq rfl (svI (by rw [hM, if_neg (show ¬ (l[k]!.same wn = true) from by rw [hc2]; decide)])), trivial⟩ trivial | exact FinQ.of ⟨ret_eq rfl (svI (by omega)), trivial⟩ trivial | exact FinQ.of ⟨ret_eq rfl (svI (by rw [fstN]; simp [*, -List.getElem!_eq_getElem?_getD])), trivial⟩ trivial
                · try simp only [decide_eq_true_eq, decide_eq_false_iff_not, beq_iff_eq, beq_eq_false_iff_ne, bne_iff_ne, bne_eq_false_iff_eq, ne_eq, Bool.not_eq_true', Bool.not_eq_false', Decidable.not_not, Int.toNat_natCast] at hc13
                  refine J.region ?_
                  refine R.eql (GOk.no rfl) rfl rfl rfl ?_
                  refine R.assign (GOk.no rfl) rfl rfl ?_
                  refine Run.nil ⟨by kernel_rfl, ?_⟩
                  refine J.cond rfl (fun hc16 => ?_) (fun hc16 => ?_)
                  · try simp only [decide_eq_true_eq, decide_eq_false_iff_not, beq_iff_eq, beq_eq_false_iff_ne, bne_iff_ne, bne_eq_false_iff_eq, ne_eq, Bool.not_eq_true', Bool.not_eq_false', Decidable.not_not, Int.toNat_natCast] at hc16
                    refine J.seq ?_
                    refine J.region ?_
                    refine R.move (GOk.no rfl) rfl rfl ?_
                    refine R.sub (GOk.no rfl) rfl rfl rfl ⟨by omega, by omega⟩ ?_
                    first | refine R.fldPtr Tryd.underlying32 rfl Tryd.sizeOf3 rfl (GOk.no rfl) rfl rfl ?_ | refine R.fldAt Tryd.underlying32 rfl Tryd.sizeOf3 rfl (GOk.no rfl) rfl rfl ?_ | refine R.fldEl Tryd.underlying32 rfl Tryd.sizeOf3 rfl (GOk.no rfl) rfl rfl ?_
                    first | refine R.stP Tryd.sizeOf3 (GOk.no rfl) rfl rfl rfl rfl rfl (Nat.le_of_ble_eq_true rfl) ?_ | refine R.stPB Tryd.sizeOf3 (GOk.no rfl) rfl rfl rfl rfl rfl ?_ | refine R.stB Tryd.sizeOf3 (GOk.no rfl) rfl rfl rfl rfl (Nat.le_of_ble_eq_true rfl) ?_
                    refine Run.nil ⟨by kernel_rfl, ?_⟩
                    refine J.seq ?_
                    refine J.region ?_
                    refine R.move (GOk.no rfl) rfl rfl ?_
                    refine R.move (GOk.no rfl) rfl rfl ?_
                    refine R.sub (GOk.no rfl) rfl rfl rfl ⟨by omega, by omega⟩ ?_
                    refine R.call [((.tmp 79), _), ((.tmp 81), _)] (ih k (by omega) (by omega)) rfl (GOk.no rfl) rfl ⟨rfl, rfl, trivial⟩ ?_
                    refine R.assign (GOk.no rfl) rfl rfl ?_
                    refine Run.nil ⟨by kernel_rfl, ?_⟩
                    refine J.seq ?_
                    refine J.seq ?_
                    refine J.region ?_
                    refine R.move (GOk.no rfl) rfl rfl ?_
                    refine R.lss (GOk.no rfl) rfl rfl rfl ?_
                    refine Run.nil ⟨by kernel_rfl, ?_⟩
                    refine J.cond rfl (fun hc17 => ?_) (fun hc17 => ?_)
                    · try simp only [decide_eq_true_eq, decide_eq_false_iff_not, beq_iff_eq, beq_eq_false_iff_ne, bne_iff_ne, bne_eq_false_iff_eq, ne_eq, Bool.not_eq_true', Bool.not_eq_false', Decidable.not_not, Int.toNat_natCast] at hc17
                      refine J.seq ?_
                      refine J.region ?_
                      refine R.assign (GOk.no rfl) rfl rfl ?_
                      refine Run.nil ⟨by kernel_rfl, ?_⟩
                      refine J.ret ?_
                      first | exact FinQ.of ⟨ret_eq rfl (svI (by have e : j = 0 := (by omega); subst e; rw [fstN])), trivial⟩ trivial | exact FinQ.of ⟨ret_eq rfl (svI (by rw [hM, if_pos (show l[k]!.same wn = true from hc2)])), trivial⟩ trivial | exact FinQ.of ⟨ret_eq rfl (svI (by rw [hM, if_neg (show ¬ (l[k]!.same wn = true) from by rw [hc2]; decide)])), trivial⟩ trivial | exact FinQ.of ⟨ret_eq rfl (svI (by omega)), trivial⟩ trivial | exact FinQ.of ⟨ret_eq rfl (svI (by rw [fstN]; simp [*, -List.getElem!_eq_getElem?_getD])), trivial⟩ trivial
                    · try simp only [decide_eq_true_eq, decide_eq_false_iff_not, beq_iff_eq, beq_eq_false_iff_ne, bne_iff_ne, bne_eq_false_iff_eq, ne_eq, Bool.not_eq_true', Bool.not_eq_false', Decidable.not_not, Int.toNat_natCast] at hc17
                      refine J.skip ?_
                      refine J.seq ?_
                      refine J.region ?_
                      refine R.move (GOk.no rfl) rfl rfl ?_
                      refine R.sub (GOk.no rfl) rfl rfl rfl ⟨by omega, by omega⟩ ?_
                      first | refine R.fldPtr Tryd.underlying32 rfl Tryd.sizeOf3 rfl (GOk.no rfl) rfl rfl ?_ | refine R.fldAt Tryd.underlying32 rfl Tryd.sizeOf3 rfl (GOk.no rfl) rfl rfl ?_ | refine R.fldEl Tryd.underlying32 rfl Tryd.sizeOf3 rfl (GOk.no rfl) rfl rfl ?_
                      first | refine R.stP Tryd.sizeOf3 (GOk.no rfl) rfl rfl rfl rfl rfl (Nat.le_of_ble_eq_true rfl) ?_ | refine R.stPB Tryd.sizeOf3 (GOk.no rfl) rfl rfl rfl rfl rfl ?_ | refine R.stB Tryd.sizeOf3 (GOk.no rfl) rfl rfl rfl rfl (Nat.le_of_ble_eq_true rfl) ?_
                      refine Run.nil ⟨by kernel_rfl, ?_⟩
                      refine J.region ?_
                      refine R.move (GOk.no rfl) rfl rfl ?_
                      refine R.move (GOk.no rfl) rfl rfl ?_
                      refine R.sub (GOk.no rfl) rfl rfl rfl ⟨by omega, by omega⟩ ?_
                      refine R.spell 90 rfl (show _ = vI (((fstN l k).toNat : Nat) - 1 : Int) from vI_eq (by omega)) ?_
                      refine R.call [((.tmp 88), _), ((.tmp 90), _)] (ih (fstN l k).toNat (by omega) (by omega)) rfl (GOk.no rfl) rfl ⟨rfl, rfl, trivial⟩ ?_
                      refine R.assign (GOk.no rfl) rfl rfl ?_
                      refine Run.nil ⟨by kernel_rfl, ?_⟩
                      first | (exfalso; omega) | exact toQ.mk (Gh.weak [(5, vC (.ptr 5 0)), (6, vC (.ptr 6 0)), (7, vI ((k : Int)))] [(5, some (.pbox (encN l[k]!))), (6, some (.pbox (encN { (default : Nd) with kind := l[k]!.kind })))] ⟨rfl, rfl, rfl, trivial⟩ ⟨rfl, rfl, trivial⟩) ⟨{ (default : Nd) with kind := l[k]!.kind }, (k : Int), by rw [fstN]; simp [*, -List.getElem!_eq_getElem?_getD], rfl, rfl⟩ | exact toQ.mk (Gh.weak [(5, vC (.ptr 5 0)), (6, vC (.ptr 6 0)), (7, vI ((k : Int)))] [(5, some (.pbox (encN l[k]!))), (6, some (.pbox (encN { (default : Nd) with kind := l[k]!.kind, cls := l[k]!.cls })))] ⟨rfl, rfl, rfl, trivial⟩ ⟨rfl, rfl, trivial⟩) ⟨{ (default : Nd) with kind := l[k]!.kind, cls := l[k]!.cls }, (k : Int), by rw [fstN]; simp [*, -List.getElem!_eq_getElem?_getD], rfl, rfl⟩ | exact toQ.mk (Gh.weak [(5, vC (.ptr 5 0)), (6, vC (.ptr 6 0)), (7, vI ((k : Int)))] [(5, some (.pbox (encN l[k]!))), (6, some (.pbox (encN { (default : Nd) with kind := l[k]!.kind, text := l[k]!.text })))] ⟨rfl, rfl, rfl, trivial⟩ ⟨rfl, rfl, trivial⟩) ⟨{ (default : Nd) with kind := l[k]!.kind, text := l[k]!.text }, (k : Int), by rw [fstN]; simp [*, -List.getElem!_eq_getElem?_getD], rfl, rfl⟩ | exact toQ.mk (Gh.weak [(5, vC (.ptr 5 0)), (6, vC (.ptr 6 0)), (7, vI (fstN l k))] [(5, some (.pbox (encN l[k]!))), (6, some (.pbox (encN { (default : Nd) with kind := l[k]!.kind, a := (k : Int) - 1 })))] ⟨rfl, rfl, rfl, trivial⟩ ⟨rfl, rfl, trivial⟩) ⟨{ (default : Nd) with kind := l[k]!.kind, a := (k : Int) - 1 }, fstN l k, by rw [fstN]; simp [*, -List.getElem!_eq_getElem?_getD], rfl, rfl⟩ | exact toQ.mk (Gh.weak [(5, vC (.ptr 5 0)), (6, vC (.ptr 6 0)), (7, vI (fstN l k))] [(5, some (.pbox (encN l[k]!))), (6, some (.pbox (encN { (default : Nd) with kind := l[k]!.kind, a := (k : Int) - 1, lo := l[k]!.lo, hi := l[k]!.hi })))] ⟨rfl, rfl, rfl, trivial⟩ ⟨rfl, rfl, trivial⟩) ⟨{ (default : Nd) with kind := l[k]!.kind, a := (k : Int) - 1, lo := l[k]!.lo, hi := l[k]!.hi }, fstN l k, by rw [fstN]; simp [*, -List.getElem!_eq_getElem?_getD], rfl, rfl⟩ | exact toQ.mk (Gh.weak [(5, vC (.ptr 5 0)), (6, vC (.ptr 6 0)), (7, vI (fstN l (fstN l k).toNat))] [(5, some (.pbox (encN l[k]!))), (6, some (.pbox (encN { (default : Nd) with kind := l[k]!.kind, b := (k : Int) - 1, a := fstN l k - 1 })))] ⟨rfl, rfl, rfl, trivial⟩ ⟨rfl, rfl, trivial⟩) ⟨{ (default : Nd) with kind := l[k]!.kind, b := (k : Int) - 1, a := fstN l k - 1 }, fstN l (fstN l k).toNat, by rw [fstN]; simp [*, -List.getElem!_eq_getElem?_getD], rfl, rfl⟩
                  · try simp only [decide_eq_true_eq, decide_eq_false_iff_not, beq_iff_eq, beq_eq_false_iff_ne, bne_iff_ne, bne_eq_false_iff_eq, ne_eq, Bool.not_eq_true', Bool.not_eq_false', Decidable.not_not, Int.toNat_natCast] at hc16
                    refine J.seq ?_
                    refine J.region ?_
                    refine R.assign (GOk.no rfl) rfl rfl ?_
                    refine Run.nil ⟨by kernel_rfl, ?_⟩
                    refine J.ret ?_
                    first | exact FinQ.of ⟨ret_eq rfl (svI (by have e : j = 0 := (by omega); subst e; rw [fstN])), trivial⟩ trivial | exact FinQ.of ⟨ret_eq rfl (svI (by rw [hM, if_pos (show l[k]!.same wn = true from hc2)])), trivial⟩ trivial | exact FinQ.of ⟨ret_eq rfl (svI (by rw [hM, if_neg (show ¬ (l[k]!.same wn = true) from by rw [hc2]; decide)])), trivial⟩ trivial | exact FinQ.of ⟨ret_eq rfl (svI (by omega)), trivial⟩ trivial | exact FinQ.of ⟨ret_eq rfl (svI (by rw [fstN]; simp [*, -List.getElem!_eq_getElem?_getD])), trivial⟩ trivial
            · try simp only [decide_eq_true_eq, decide_eq_false_iff_not, beq_iff_eq, beq_eq_false_iff_ne, bne_iff_ne, bne_eq_false_iff_eq, ne_eq, Bool.not_eq_true', Bool.not_eq_false', Decidable.not_not, Int.toNat_natCast] at hc7
              refine J.seq ?_
              refine J.region ?_
              refine R.eql (GOk.no rfl) rfl rfl rfl ?_
              refine R.assign (GOk.no rfl) rfl rfl ?_
              refine Run.nil ⟨by kernel_rfl, ?_⟩
              refine J.cond rfl (fun hc18 => ?_) (fun hc18 => ?_)
              · try simp only [decide_eq_true_eq, decide_eq_false_iff_not, beq_iff_eq, beq_eq_false_iff_ne, bne_iff_ne, bne_eq_false_iff_eq, ne_eq, Bool.not_eq_true', Bool.not_eq_false', Decidable.not_not, Int.toNat_natCast] at hc18
                refine J.skip ?_
                refine J.cond rfl (fun hc19 => ?_) (fun hc19 => ?_)
                · try simp only [decide_eq_true_eq, decide_eq_false_iff_not, beq_iff_eq, beq_eq_false_iff_ne, bne_iff_ne, bne_eq_false_iff_eq, ne_eq, Bool.not_eq_true', Bool.not_eq_false', Decidable.not_not, Int.toNat_natCast] at hc19
                  refine J.seq ?_
                  refine J.region ?_
                  refine R.move (GOk.no rfl) rfl rfl ?_
                  refine R.sub (GOk.no rfl) rfl rfl rfl ⟨by omega, by omega⟩ ?_
                  first | refine R.fldPtr Tryd.underlying32 rfl Tryd.sizeOf3 rfl (GOk.no rfl) rfl rfl ?_ | refine R.fldAt Tryd.underlying32 rfl Tryd.sizeOf3 rfl (GOk.no rfl) rfl rfl ?_ | refine R.fldEl Tryd.underlying32 rfl Tryd.sizeOf3 rfl (GOk.no rfl) rfl rfl ?_
                  first | refine R.stP Tryd.sizeOf3 (GOk.no rfl) rfl rfl rfl rfl rfl (Nat.le_of_ble_eq_true rfl) ?_ | refine R.stPB Tryd.sizeOf3 (GOk.no rfl) rfl rfl rfl rfl rfl ?_ | refine R.stB Tryd.sizeOf3 (GOk.no rfl) rfl rfl rfl rfl (Nat.le_of_ble_eq_true rfl) ?_
                  refine Run.nil ⟨by kernel_rfl, ?_⟩
                  refine J.seq ?_
                  refine J.seq ?_
                  refine J.region ?_
                  first | refine R.fldPtr Tryd.underlying32 rfl Tryd.sizeOf3 rfl (GOk.no rfl) rfl rfl ?_ | refine R.fldAt Tryd.underlying32 rfl Tryd.sizeOf3 rfl (GOk.no rfl) rfl rfl ?_ | refine R.fldEl Tryd.underlying32 rfl Tryd.sizeOf3 rfl (GOk.no rfl) rfl rfl ?_
                  first | refine R.ldP1 Tryd.isAgg3 (GOk.no rfl) rfl rfl rfl rfl ?_ | refine R.ldAt1 Tryd.isAgg3 (GOk.no rfl) rfl rfl rfl ?_ | refine R.ldB1 Tryd.isAgg3 (GOk.no rfl) rfl rfl rfl rfl ?_ | refine R.ldElM1 Tryd.isAgg3 (GOk.no rfl) rfl rfl rfl (by omega) rfl ?_
                  refine R.eql (GOk.no rfl) rfl rfl rfl ?_
                  refine Run.nil ⟨by kernel_rfl, ?_⟩
                  refine J.cond rfl (fun hc20 => ?_) (fun hc20 => ?_)
                  · try simp only [decide_eq_true_eq, decide_eq_false_iff_not, beq_iff_eq, beq_eq_false_iff_ne, bne_iff_ne, bne_eq_false_iff_eq, ne_eq, Bool.not_eq_true', Bool.not_eq_false', Decidable.not_not, Int.toNat_natCast] at hc20
                    refine J.seq ?_
                    refine J.region ?_
                    first | refine R.fldPtr Tryd.underlying32 rfl Tryd.sizeOf3 rfl (GOk.no rfl) rfl rfl ?_ | refine R.fldAt Tryd.underlying32 rfl Tryd.sizeOf3 rfl (GOk.no rfl) rfl rfl ?_ | refine R.fldEl Tryd.underlying32 rfl Tryd.sizeOf3 rfl (GOk.no rfl) rfl rfl ?_
                    first | refine R.ldP1 Tryd.isAgg3 (GOk.no rfl) rfl rfl rfl rfl ?_ | refine R.ldAt1 Tryd.isAgg3 (GOk.no rfl) rfl rfl rfl ?_ | refine R.ldB1 Tryd.isAgg3 (GOk.no rfl) rfl rfl rfl rfl ?_ | refine R.ldElM1 Tryd.isAgg3 (GOk.no rfl) rfl rfl rfl (by omega) rfl ?_
                    first | refine R.fldPtr Tryd.underlying32 rfl Tryd.sizeOf3 rfl (GOk.no rfl) rfl rfl ?_ | refine R.fldAt Tryd.underlying32 rfl Tryd.sizeOf3 rfl (GOk.no rfl) rfl rfl ?_ | refine R.fldEl Tryd.underlying32 rfl Tryd.sizeOf3 rfl (GOk.no rfl) rfl rfl ?_
                    first | refine R.stP Tryd.sizeOf3 (GOk.no rfl) rfl rfl rfl rfl rfl (Nat.le_of_ble_eq_true rfl) ?_ | refine R.stPB Tryd.sizeOf3 (GOk.no rfl) rfl rfl rfl rfl rfl ?_ | refine R.stB Tryd.sizeOf3 (GOk.no rfl) rfl rfl rfl rfl (Nat.le_of_ble_eq_true rfl) ?_
                    refine Run.nil ⟨by kernel_rfl, ?_⟩
                    refine J.seq ?_
                    refine J.region ?_
                    first | refine R.fldPtr Tryd.underlying32 rfl Tryd.sizeOf3 rfl (GOk.no rfl) rfl rfl ?_ | refine R.fldAt Tryd.underlying32 rfl Tryd.sizeOf3 rfl (GOk.no rfl) rfl rfl ?_ | refine R.fldEl Tryd.underlying32 rfl Tryd.sizeOf3 rfl (GOk.no rfl) rfl rfl ?_
                    first | refine R.ldP1 Tryd.isAgg3 (GOk.no rfl) rfl rfl rfl rfl ?_ | refine R.ldAt1 Tryd.isAgg3 (GOk.no rfl) rfl rfl rfl ?_ | refine R.ldB1 Tryd.isAgg3 (GOk.no rfl) rfl rfl rfl rfl ?_ | refine R.ldElM1 Tryd.isAgg3 (GOk.no rfl) rfl rfl rfl (by omega) rfl ?_
                    first | refine R.fldPtr Tryd.underlying32 rfl Tryd.sizeOf3 rfl (GOk.no rfl) rfl rfl ?_ | refine R.fldAt Tryd.underlying32 rfl Tryd.sizeOf3 rfl (GOk.no rfl) rfl rfl ?_ | refine R.fldEl Tryd.underlying32 rfl Tryd.sizeOf3 rfl (GOk.no rfl) rfl rfl ?_
                    first | refine R.stP Tryd.sizeOf3 (GOk.no rfl) rfl rfl rfl rfl rfl (Nat.le_of_ble_eq_true rfl) ?_ | refine R.stPB Tryd.sizeOf3 (GOk.no rfl) rfl rfl rfl rfl rfl ?_ | refine R.stB Tryd.sizeOf3 (GOk.no rfl) rfl rfl rfl rfl (Nat.le_of_ble_eq_true rfl) ?_
                    refine Run.nil ⟨by kernel_rfl, ?_⟩
                    refine J.seq ?_
                    refine J.region ?_
                    first | refine R.fldPtr Tryd.underlying32 rfl Tryd.sizeOf3 rfl (GOk.no rfl) rfl rfl ?_ | refine R.fldAt Tryd.underlying32 rfl Tryd.sizeOf3 rfl (GOk.no rfl) rfl rfl ?_ | refine R.fldEl Tryd.underlying32 rfl Tryd.sizeOf3 rfl (GOk.no rfl) rfl rfl ?_
                    first | refine R.ldP1 Tryd.isAgg3 (GOk.no rfl) rfl rfl rfl rfl ?_ | refine R.ldAt1 Tryd.isAgg3 (GOk.no rfl) rfl rfl rfl ?_ | refine R.ldB1 Tryd.isAgg3 (GOk.no rfl) rfl rfl rfl rfl ?_ | refine R.ldElM1 Tryd.isAgg3 (GOk.no rfl) rfl rfl rfl (by omega) rfl ?_
                    refine R.lss (GOk.no rfl) rfl rfl rfl ?_
                    refine R.move (GOk.no rfl) rfl rfl ?_
                    refine R.case 57 rfl (fun hg21 => ?_) (fun hg21 => ?_)
                    · try simp only [decide_eq_true_eq, decide_eq_false_iff_not, beq_iff_eq, beq_eq_false_iff_ne, bne_iff_ne, bne_eq_false_iff_eq, ne_eq, Bool.not_eq_true', Bool.not_eq_false', Decidable.not_not, Int.toNat_natCast] at hg21
                      refine R.pass (GOk.of rfl rfl rfl _ rfl) rfl ?_
                      refine R.pass (GOk.of rfl rfl rfl _ rfl) rfl ?_
                      refine R.pass (GOk.of rfl rfl rfl _ rfl) rfl ?_
                      refine R.pass (GOk.of rfl rfl rfl _ rfl) rfl ?_
                      refine R.pass (GOk.of rfl rfl rfl _ rfl) rfl ?_
                      first | refine R.pickT (GOk.no rfl) rfl rfl rfl ?_ | refine R.pickF (GOk.no rfl) rfl rfl rfl ?_
                      refine R.move (GOk.no rfl) rfl rfl ?_
                      refine R.pass (GOk.of rfl rfl rfl _ rfl) rfl ?_
                      refine R.pass (GOk.of rfl rfl rfl _ rfl) rfl ?_
                      refine R.pass (GOk.of rfl rfl rfl _ rfl) rfl ?_
                      first | refine R.pickT (GOk.no rfl) rfl rfl rfl ?_ | refine R.pickF (GOk.no rfl) rfl rfl rfl ?_
                      refine Run.nil ⟨by kernel_rfl, ?_⟩
                      refine J.condT rfl ?_
                      refine J.seq ?_
                      refine J.region ?_
                      refine R.assign (GOk.no rfl) rfl rfl ?_
                      refine Run.nil ⟨by kernel_rfl, ?_⟩
                      refine J.ret ?_
                      first | exact FinQ.of ⟨ret_eq rfl (svI (by have e : j = 0 := (by omega); subst e; rw [fstN])), trivial⟩ trivial | exact FinQ.of ⟨ret_eq rfl (svI (by rw [hM, if_pos (show l[k]!.same wn = true from hc2)])), trivial⟩ trivial | exact FinQ.of ⟨ret_eq rfl (svI (by rw [hM, if_neg (show ¬ (l[k]!.same wn = true) from by rw [hc2]; decide)])), trivial⟩ trivial | exact FinQ.of ⟨ret_eq rfl (svI (by omega)), trivial⟩ trivial | exact FinQ.of ⟨ret_eq rfl (svI (by rw [fstN]; simp [*, -List.getElem!_eq_getElem?_getD])), trivial⟩ trivial
                    · try simp only [decide_eq_true_eq, decide_eq_false_iff_not, beq_iff_eq, beq_eq_false_iff_ne, bne_iff_ne, bne_eq_false_iff_eq, ne_eq, Bool.not_eq_true', Bool.not_eq_false', Decidable.not_not, Int.toNat_natCast] at hg21
                      first | refine R.fldPtr Tryd.underlying32 rfl Tryd.sizeOf3 rfl (GOk.of rfl rfl rfl _ rfl) rfl rfl ?_ | refine R.fldAt Tryd.underlying32 rfl Tryd.sizeOf3 rfl (GOk.of rfl rfl rfl _ rfl) rfl rfl ?_ | refine R.fldEl Tryd.underlying32 rfl Tryd.sizeOf3 rfl (GOk.of rfl rfl rfl _ rfl) rfl rfl ?_
                      first | refine R.ldP1 Tryd.isAgg3 (GOk.of rfl rfl rfl _ rfl) rfl rfl rfl rfl ?_ | refine R.ldAt1 Tryd.isAgg3 (GOk.of rfl rfl rfl _ rfl) rfl rfl rfl ?_ | refine R.ldB1 Tryd.isAgg3 (GOk.of rfl rfl rfl _ rfl) rfl rfl rfl rfl ?_ | refine R.ldElM1 Tryd.isAgg3 (GOk.of rfl rfl rfl _ rfl) rfl rfl rfl (by omega) rfl ?_
                      first | refine R.fldPtr Tryd.underlying32 rfl Tryd.sizeOf3 rfl (GOk.of rfl rfl rfl _ rfl) rfl rfl ?_ | refine R.fldAt Tryd.underlying32 rfl Tryd.sizeOf3 rfl (GOk.of rfl rfl rfl _ rfl) rfl rfl ?_ | refine R.fldEl Tryd.underlying32 rfl Tryd.sizeOf3 rfl (GOk.of rfl rfl rfl _ rfl) rfl rfl ?_
                      first | refine R.ldP1 Tryd.isAgg3 (GOk.of rfl rfl rfl _ rfl) rfl rfl rfl rfl ?_ | refine R.ldAt1 Tryd.isAgg3 (GOk.of rfl rfl rfl _ rfl) rfl rfl rfl ?_ | refine R.ldB1 Tryd.isAgg3 (GOk.of rfl rfl rfl _ rfl) rfl rfl rfl rfl ?_ | refine R.ldElM1 Tryd.isAgg3 (GOk.of rfl rfl rfl _ rfl) rfl rfl rfl (by omega) rfl ?_
                      refine R.gtr (GOk.of rfl rfl rfl _ rfl) rfl rfl rfl ?_
                      first | refine R.pickT (GOk.no rfl) rfl rfl rfl ?_ | refine R.pickF (GOk.no rfl) rfl rfl rfl ?_
                      refine R.move (GOk.no rfl) rfl rfl ?_
                      refine R.case 64 rfl (fun hg22 => ?_) (fun hg22 => ?_)
                      · try simp only [decide_eq_true_eq, decide_eq_false_iff_not, beq_iff_eq, beq_eq_false_iff_ne, bne_iff_ne, bne_eq_false_iff_eq, ne_eq, Bool.not_eq_true', Bool.not_eq_false', Decidable.not_not, Int.toNat_natCast] at hg22
                        refine R.pass (GOk.of rfl rfl rfl _ rfl) rfl ?_
                        refine R.pass (GOk.of rfl rfl rfl _ rfl) rfl ?_
                        refine R.pass (GOk.of rfl rfl rfl _ rfl) rfl ?_
                        first | refine R.pickT (GOk.no rfl) rfl rfl rfl ?_ | refine R.pickF (GOk.no rfl) rfl rfl rfl ?_
                        refine Run.nil ⟨by kernel_rfl, ?_⟩
                        refine J.condT rfl ?_
                        refine J.seq ?_
                        refine J.region ?_
                        refine R.assign (GOk.no rfl) rfl rfl ?_
                        refine Run.nil ⟨by kernel_rfl, ?_⟩
                        refine J.ret ?_
                        first | exact FinQ.of ⟨ret_eq rfl (svI (by have e : j = 0 := (by omega); subst e; rw [fstN])), trivial⟩ trivial | exact FinQ.of ⟨ret_eq rfl (svI (by rw [hM, if_pos (show l[k]!.same wn = true from hc2)])), trivial⟩ trivial | exact FinQ.of ⟨ret_eq rfl (svI (by rw [hM, if_neg (show ¬ (l[k]!.same wn = true) from by rw [hc2]; decide)])), trivial⟩ trivial | exact FinQ.of ⟨ret_eq rfl (svI (by omega)), trivial⟩ trivial | exact FinQ.of ⟨ret_eq rfl (svI (by rw [fstN]; simp [*, -List.getElem!_eq_getElem?_getD])), trivial⟩ trivial
                      · try simp only [decide_eq_true_eq, decide_eq_false_iff_not, beq_iff_eq, beq_eq_false_iff_ne, bne_iff_ne, bne_eq_false_iff_eq, ne_eq, Bool.not_eq_true', Bool.not_eq_false', Decidable.not_not, Int.toNat_natCast] at hg22
                        first | refine R.fldPtr Tryd.underlying32 rfl Tryd.sizeOf3 rfl (GOk.of rfl rfl rfl _ rfl) rfl rfl ?_ | refine R.fldAt Tryd.underlying32 rfl Tryd.sizeOf3 rfl (GOk.of rfl rfl rfl _ rfl) rfl rfl ?_ | refine R.fldEl Tryd.underlying32 rfl Tryd.sizeOf3 rfl (GOk.of rfl rfl rfl _ rfl) rfl rfl ?_
                        first | refine R.ldP1 Tryd.isAgg3 (GOk.of rfl rfl rfl _ rfl) rfl rfl rfl rfl ?_ | refine R.ldAt1 Tryd.isAgg3 (GOk.of rfl rfl rfl _ rfl) rfl rfl rfl ?_ | refine R.ldB1 Tryd.isAgg3 (GOk.of rfl rfl rfl _ rfl) rfl rfl rfl rfl ?_ | refine R.ldElM1 Tryd.isAgg3 (GOk.of rfl rfl rfl _ rfl) rfl rfl rfl (by omega) rfl ?_
                        refine R.gtr (GOk.of rfl rfl rfl _ rfl) rfl rfl rfl ?_
                        first | refine R.pickT (GOk.no rfl) rfl rfl rfl ?_ | refine R.pickF (GOk.no rfl) rfl rfl rfl ?_
                        refine Run.nil ⟨by kernel_rfl, ?_⟩
                        refine J.cond rfl (fun hc23 => ?_) (fun hc23 => ?_)
                        · try simp only [decide_eq_true_eq, decide_eq_false_iff_not, beq_iff_eq, beq_eq_false_iff_ne, bne_iff_ne, bne_eq_false_iff_eq, ne_eq, Bool.not_eq_true', Bool.not_eq_false', Decidable.not_not, Int.toNat_natCast] at hc23
                          refine J.seq ?_
                          refine J.region ?_
                          refine R.assign (GOk.no rfl) rfl rfl ?_
                          refine Run.nil ⟨by kernel_rfl, ?_⟩
                          refine J.ret ?_
                          first | exact FinQ.of ⟨ret_eq rfl (svI (by have e : j = 0 := (by omega); subst e; rw [fstN])), trivial⟩ trivial | exact FinQ.of ⟨ret_eq rfl (svI (by rw [hM, if_pos (show l[k]!.same wn = true from hc2)])), trivial⟩ trivial | exact FinQ.of ⟨ret_eq rfl (svI (by rw [hM, if_neg (show ¬ (l[k]!.same wn = true) from by rw [hc2]; decide)])), trivial⟩ trivial | exact FinQ.of ⟨ret_eq rfl (svI (by omega)), trivial⟩ trivial | exact FinQ.of ⟨ret_eq rfl (svI (by rw [fstN]; simp [*, -List.getElem!_eq_getElem?_getD])), trivial⟩ trivial
                        · try simp only [decide_eq_true_eq, decide_eq_false_iff_not, beq_iff_eq, beq_eq_false_iff_ne, bne_iff_ne, bne_eq_false_iff_eq, ne_eq, Bool.not_eq_true', Bool.not_eq_false', Decidable.not_not, Int.toNat_natCast] at hc23
                          refine J.skip ?_
                          refine J.region ?_
                          refine R.move (GOk.no rfl) rfl rfl ?_
                          refine R.move (GOk.no rfl) rfl rfl ?_
                          refine R.sub (GOk.no rfl) rfl rfl rfl ⟨by omega, by omega⟩ ?_
                          refine R.call [((.tmp 69), _), ((.tmp 71), _)] (ih k (by omega) (by omega)) rfl (GOk.no rfl) rfl ⟨rfl, rfl, trivial⟩ ?_
                          refine R.assign (GOk.no rfl) rfl rfl ?_
                          refine Run.nil ⟨by kernel_rfl, ?_⟩
                          first | (exfalso; omega) | exact toQ.mk (Gh.weak [(5, vC (.ptr 5 0)), (6, vC (.ptr 6 0)), (7, vI ((k : Int)))] [(5, some (.pbox (encN l[k]!))), (6, some (.pbox (encN { (default : Nd) with kind := l[k]!.kind })))] ⟨rfl, rfl, rfl, trivial⟩ ⟨rfl, rfl, trivial⟩) ⟨{ (default : Nd) with kind := l[k]!.kind }, (k : Int), by rw [fstN]; simp [*, -List.getElem!_eq_getElem?_getD], rfl, rfl⟩ | exact toQ.mk (Gh.weak [(5, vC (.ptr 5 0)), (6, vC (.ptr 6 0)), (7, vI ((k : Int)))] [(5, some (.pbox (encN l[k]!))), (6, some (.pbox (encN { (default : Nd) with kind := l[k]!.kind, cls := l[k]!.cls })))] ⟨rfl, rfl, rfl, trivial⟩ ⟨rfl, rfl, trivial⟩) ⟨{ (default : Nd) with kind := l[k]!.kind, cls := l[k]!.cls }, (k : Int), by rw [fstN]; simp [*, -List.getElem!_eq_getElem?_getD], rfl, rfl⟩ | exact toQ.mk (Gh.weak [(5, vC (.ptr 5 0)), (6, vC (.ptr 6 0)), (7, vI ((k : Int)))] [(5, some (.pbox (encN l[k]!))), (6, some (.pbox (encN { (default : Nd) with kind := l[k]!.kind, text := l[k]!.text })))] ⟨rfl, rfl, rfl, trivial⟩ ⟨rfl, rfl, trivial⟩) ⟨{ (default : Nd) with kind := l[k]!.kind, text := l[k]!.text }, (k : Int), by rw [fstN]; simp [*, -List.getElem!_eq_getElem?_getD], rfl, rfl⟩ | exact toQ.mk (Gh.weak [(5, vC (.ptr 5 0)), (6, vC (.ptr 6 0)), (7, vI (fstN l k))] [(5, some (.pbox (encN l[k]!))), (6, some (.pbox (encN { (default : Nd) with kind := l[k]!.kind, a := (k : Int) - 1 })))] ⟨rfl, rfl, rfl, trivial⟩ ⟨rfl, rfl, trivial⟩) ⟨{ (default : Nd) with kind := l[k]!.kind, a := (k : Int) - 1 }, fstN l k, by rw [fstN]; simp [*, -List.getElem!_eq_getElem?_getD], rfl, rfl⟩ | exact toQ.mk (Gh.weak [(5, vC (.ptr 5 0)), (6, vC (.ptr 6 0)), (7, vI (fstN l k))] [(5, some (.pbox (encN l[k]!))), (6, some (.pbox (encN { (default : Nd) with kind := l[k]!.kind, a := (k : Int) - 1, lo := l[k]!.lo, hi := l[k]!.hi })))] ⟨rfl, rfl, rfl, trivial⟩ ⟨rfl, rfl, trivial⟩) ⟨{ (default : Nd) with kind := l[k]!.kind, a := (k : Int) - 1, lo := l[k]!.lo, hi := l[k]!.hi }, fstN l k, by rw [fstN]; simp [*, -List.getElem!_eq_getElem?_getD], rfl, rfl⟩ | exact toQ.mk (Gh.weak [(5, vC (.ptr 5 0)), (6, vC (.ptr 6 0)), (7, vI (fstN l (fstN l k).toNat))] [(5, some (.pbox (encN l[k]!))), (6, some (.pbox (encN { (default : Nd) with kind := l[k]!.kind, b := (k : Int) - 1, a := fstN l k - 1 })))] ⟨rfl, rfl, rfl, trivial⟩ ⟨rfl, rfl, trivial⟩) ⟨{ (default : Nd) with kind := l[k]!.kind, b := (k : Int) - 1, a := fstN l k - 1 }, fstN l (fstN l k).toNat, by rw [fstN]; simp [*, -List.getElem!_eq_getElem?_getD], rfl, rfl⟩
                  · try simp only [decide_eq_true_eq, decide_eq_false_iff_not, beq_iff_eq, beq_eq_false_iff_ne, bne_iff_ne, bne_eq_false_iff_eq, ne_eq, Bool.not_eq_true', Bool.not_eq_false', Decidable.not_not, Int.toNat_natCast] at hc20
                    refine J.skip ?_
                    refine J.region ?_
                    refine R.move (GOk.no rfl) rfl rfl ?_
                    refine R.move (GOk.no rfl) rfl rfl ?_
                    refine R.sub (GOk.no rfl) rfl rfl rfl ⟨by omega, by omega⟩ ?_
                    refine R.call [((.tmp 69), _), ((.tmp 71), _)] (ih k (by omega) (by omega)) rfl (GOk.no rfl) rfl ⟨rfl, rfl, trivial⟩ ?_
                    refine R.assign (GOk.no rfl) rfl rfl ?_
                    refine Run.nil ⟨by kernel_rfl, ?_⟩
                    first | (exfalso; omega) | exact toQ.mk (Gh.weak [(5, vC (.ptr 5 0)), (6, vC (.ptr 6 0)), (7, vI ((k : Int)))] [(5, some (.pbox (encN l[k]!))), (6, some (.pbox (encN { (default : Nd) with kind := l[k]!.kind })))] ⟨rfl, rfl, rfl, trivial⟩ ⟨rfl, rfl, trivial⟩) ⟨{ (default : Nd) with kind := l[k]!.kind }, (k : Int), by rw [fstN]; simp [*, -List.getElem!_eq_getElem?_getD], rfl, rfl⟩ | exact toQ.mk (Gh.weak [(5, vC (.ptr 5 0)), (6, vC (.ptr 6 0)), (7, vI ((k : Int)))] [(5, some (.pbox (encN l[k]!))), (6, some (.pbox (encN { (default : Nd) with kind := l[k]!.kind, cls := l[k]!.cls })))] ⟨rfl, rfl, rfl, trivial⟩ ⟨rfl, rfl, trivial⟩) ⟨{ (default : Nd) with kind := l[k]!.kind, cls := l[k]!.cls }, (k : Int), by rw [fstN]; simp [*, -List.getElem!_eq_getElem?_getD], rfl, rfl⟩ | exact toQ.mk (Gh.weak [(5, vC (.ptr 5 0)), (6, vC (.ptr 6 0)), (7, vI ((k : Int)))] [(5, some (.pbox (encN l[k]!))), (6, some (.pbox (encN { (default : Nd) with kind := l[k]!.kind, text := l[k]!.text })))] ⟨rfl, rfl, rfl, trivial⟩ ⟨rfl, rfl, trivial⟩) ⟨{ (default : Nd) with kind := l[k]!.kind, text := l[k]!.text }, (k : Int), by rw [fstN]; simp [*, -List.getElem!_eq_getElem?_getD], rfl, rfl⟩ | exact toQ.mk (Gh.weak [(5, vC (.ptr 5 0)), (6, vC (.ptr 6 0)), (7, vI (fstN l k))] [(5, some (.pbox (encN l[k]!))), (6, some (.pbox (encN { (default : Nd) with kind := l[k]!.kind, a := (k : Int) - 1 })))] ⟨rfl, rfl, rfl, trivial⟩ ⟨rfl, rfl, trivial⟩) ⟨{ (default : Nd) with kind := l[k]!.kind, a := (k : Int) - 1 }, fstN l k, by rw [fstN]; simp [*, -List.getElem!_eq_getElem?_getD], rfl, rfl⟩ | exact toQ.mk (Gh.weak [(5, vC (.ptr 5 0)), (6, vC (.ptr 6 0)), (7, vI (fstN l k))] [(5, some (.pbox (encN l[k]!))), (6, some (.pbox (encN { (default : Nd) with kind := l[k]!.kind, a := (k : Int) - 1, lo := l[k]!.lo, hi := l[k]!.hi })))] ⟨rfl, rfl, rfl, trivial⟩ ⟨rfl, rfl, trivial⟩) ⟨{ (default : Nd) with kind := l[k]!.kind, a := (k : Int) - 1, lo := l[k]!.lo, hi := l[k]!.hi }, fstN l k, by rw [fstN]; simp [*, -List.getElem!_eq_getElem?_getD], rfl, rfl⟩ | exact toQ.mk (Gh.weak [(5, vC (.ptr 5 0)), (6, vC (.ptr 6 0)), (7, vI (fstN l (fstN l k).toNat))] [(5, some (.pbox (encN l[k]!))), (6, some (.pbox (encN { (default : Nd) with kind := l[k]!.kind, b := (k : Int) - 1, a := fstN l k - 1 })))] ⟨rfl, rfl, rfl, trivial⟩ ⟨rfl, rfl, trivial⟩) ⟨{ (default : Nd) with kind := l[k]!.kind, b := (k : Int) - 1, a := fstN l k - 1 }, fstN l (fstN l k).toNat, by rw [fstN]; simp [*, -List.getElem!_eq_getElem?_getD], rfl, rfl⟩
                · try simp only [decide_eq_true_eq, decide_eq_false_iff_not, beq_iff_eq, beq_eq_false_iff_ne, bne_iff_ne, bne_eq_false_iff_eq, ne_eq, Bool.not_eq_true', Bool.not_eq_false', Decidable.not_not, Int.toNat_natCast] at hc19
                  refine J.seq ?_
                  refine J.seq ?_
                  refine J.region ?_
                  refine R.eql (GOk.no rfl) rfl rfl rfl ?_
                  refine R.assign (GOk.no rfl) rfl rfl ?_
                  refine Run.nil ⟨by kernel_rfl, ?_⟩
                  refine J.cond rfl (fun hc24 => ?_) (fun hc24 => ?_)
                  · try simp only [decide_eq_true_eq, decide_eq_false_iff_not, beq_iff_eq, beq_eq_false_iff_ne, bne_iff_ne, bne_eq_false_iff_eq, ne_eq, Bool.not_eq_true', Bool.not_eq_false', Decidable.not_not, Int.toNat_natCast] at hc24
                    refine J.skip ?_
                    refine J.cond rfl (fun hc25 => ?_) (fun hc25 => ?_)
                    · try simp only [decide_eq_true_eq, decide_eq_false_iff_not, beq_iff_eq, beq_eq_false_iff_ne, bne_iff_ne, bne_eq_false_iff_eq, ne_eq, Bool.not_eq_true', Bool.not_eq_false', Decidable.not_not, Int.toNat_natCast] at hc25
                      refine J.seq ?_
                      refine J.region ?_
                      refine R.move (GOk.no rfl) rfl rfl ?_
                      refine R.sub (GOk.no rfl) rfl rfl rfl ⟨by omega, by omega⟩ ?_
                      first | refine R.fldPtr Tryd.underlying32 rfl Tryd.sizeOf3 rfl (GOk.no rfl) rfl rfl ?_ | refine R.fldAt Tryd.underlying32 rfl Tryd.sizeOf3 rfl (GOk.no rfl) rfl rfl ?_ | refine R.fldEl Tryd.underlying32 rfl Tryd.sizeOf3 rfl (GOk.no rfl) rfl rfl ?_
                      first | refine R.stP Tryd.sizeOf3 (GOk.no rfl) rfl rfl rfl rfl rfl (Nat.le_of_ble_eq_true rfl) ?_ | refine R.stPB Tryd.sizeOf3 (GOk.no rfl) rfl rfl rfl rfl rfl ?_ | refine R.stB Tryd.sizeOf3 (GOk.no rfl) rfl rfl rfl rfl (Nat.le_of_ble_eq_true rfl) ?_
                      refine Run.nil ⟨by kernel_rfl, ?_⟩
                      refine J.seq ?_
                      refine J.region ?_
                      refine R.move (GOk.no rfl) rfl rfl ?_
                      refine R.move (GOk.no rfl) rfl rfl ?_
                      refine R.sub (GOk.no rfl) rfl rfl rfl ⟨by omega, by omega⟩ ?_
                      refine R.call [((.tmp 79), _), ((.tmp 81), _)] (ih k (by omega) (by omega)) rfl (GOk.no rfl) rfl ⟨rfl, rfl, trivial⟩ ?_
                      refine R.assign (GOk.no rfl) rfl rfl ?_
                      refine Run.nil ⟨by kernel_rfl, ?_⟩
                      refine J.seq ?_
                      refine J.seq ?_
                      refine J.region ?_
                      refine R.move (GOk.no rfl) rfl rfl ?_
                      refine R.lss (GOk.no rfl) rfl rfl rfl ?_
                      refine Run.nil ⟨by kernel_rfl, ?_⟩
                      refine J.cond rfl (fun hc26 => ?_) (fun hc26 => ?_)
                      · try simp only [decide_eq_true_eq, decide_eq_false_iff_not, beq_iff_eq, beq_eq_false_iff_ne, bne_iff_ne, bne_eq_false_iff_eq, ne_eq, Bool.not_eq_true', Bool.not_eq_false', Decidable.not_not, Int.toNat_natCast] at hc26
                        refine J.seq ?_
                        refine J.region ?_
                        refine R.assign (GOk.no rfl) rfl rfl ?_
                        refine Run.nil ⟨by kernel_rfl, ?_⟩
                        refine J.ret ?_
                        first | exact FinQ.of ⟨ret_eq rfl (svI (by have e : j = 0 := (by omega); subst e; rw [fstN])), trivial⟩ trivial | exact FinQ.of ⟨ret_eq rfl (svI (by rw [hM, if_pos (show l[k]!.same wn = true from hc2)])), trivial⟩ trivial | exact FinQ.of ⟨ret_eq rfl (svI (by rw [hM, if_neg (show ¬ (l[k]!.same wn = true) from by rw [hc2]; decide)])), trivial⟩ trivial | exact FinQ.of ⟨ret_eq rfl (svI (by omega)), trivial⟩ trivial | exact FinQ.of ⟨ret_eq rfl (svI (by rw [fstN]; simp [*, -List.getElem!_eq_getElem?_getD])), trivial⟩ trivial
                      · try simp only [decide_eq_true_eq, decide_eq_false_iff_not, beq_iff_eq, beq_eq_false_iff_ne, bne_iff_ne, bne_eq_false_iff_eq, ne_eq, Bool.not_eq_true', Bool.not_eq_false', Decidable.not_not, Int.toNat_natCast] at hc26
                        refine J.skip ?_
                        refine J.seq ?_
                        refine J.region ?_
                        refine R.move (GOk.no rfl) rfl rfl ?_
                        refine R.sub (GOk.no rfl) rfl rfl rfl ⟨by omega, by omega⟩ ?_
                        first | refine R.fldPtr Tryd.underlying32 rfl Tryd.sizeOf3 rfl (GOk.no rfl) rfl rfl ?_ | refine R.fldAt Tryd.underlying32 rfl Tryd.sizeOf3 rfl (GOk.no rfl) rfl rfl ?_ | refine R.fldEl Tryd.underlying32 rfl Tryd.sizeOf3 rfl (GOk.no rfl) rfl rfl ?_
                        first | refine R.stP Tryd.sizeOf3 (GOk.no rfl) rfl rfl rfl rfl rfl (Nat.le_of_ble_eq_true rfl) ?_ | refine R.stPB Tryd.sizeOf3 (GOk.no rfl) rfl rfl rfl rfl rfl ?_ | refine R.stB Tryd.sizeOf3 (GOk.no rfl) rfl rfl rfl rfl (Nat.le_of_ble_eq_true rfl) ?_
                        refine Run.nil ⟨by kernel_rfl, ?_⟩
                        refine J.region ?_
                        refine R.move (GOk.no rfl) rfl rfl ?_
                        refine R.move (GOk.no rfl) rfl rfl ?_
                        refine R.sub (GOk.no rfl) rfl rfl rfl ⟨by omega, by omega⟩ ?_
                        refine R.spell 90 rfl (show _ = vI (((fstN l k).toNat : Nat) - 1 : Int) from vI_eq (by omega)) ?_
                        refine R.call [((.tmp 88), _), ((.tmp 90), _)] (ih (fstN l k).toNat (by omega) (by omega)) rfl (GOk.no rfl) rfl ⟨rfl, rfl, trivial⟩ ?_
                        refine R.assign (GOk.no rfl) rfl rfl ?_
                        refine Run.nil ⟨by kernel_rfl, ?_⟩
                        first | (exfalso; omega) | exact toQ.mk (Gh.weak [(5, vC (.ptr 5 0)), (6, vC (.ptr 6 0)), (7, vI ((k : Int)))] [(5, some (.pbox (encN l[k]!))), (6, some (.pbox (encN { (default : Nd) with kind := l[k]!.kind })))] ⟨rfl, rfl, rfl, trivial⟩ ⟨rfl, rfl, trivial⟩) ⟨{ (default : Nd) with kind := l[k]!.kind }, (k : Int), by rw [fstN]; simp [*, -List.getElem!_eq_getElem?_getD], rfl, rfl⟩ | exact toQ.mk (Gh.weak [(5, vC (.ptr 5 0)), (6, vC (.ptr 6 0)), (7, vI ((k : Int)))] [(5, some (.pbox (encN l[k]!))), (6, some (.pbox (encN { (default : Nd) with kind := l[k]!.kind, cls := l[k]!.cls })))] ⟨rfl, rfl, rfl, trivial⟩ ⟨rfl, rfl, trivial⟩) ⟨{ (default : Nd) with kind := l[k]!.kind, cls := l[k]!.cls }, (k : Int), by rw [fstN]; simp [*, -List.getElem!_eq_getElem?_getD], rfl, rfl⟩ | exact toQ.mk (Gh.weak [(5, vC (.ptr 5 0)), (6, vC (.ptr 6 0)), (7, vI ((k : Int)))] [(5, some (.pbox (encN l[k]!))), (6, some (.pbox (encN { (default : Nd) with kind := l[k]!.kind, text := l[k]!.text })))] ⟨rfl, rfl, rfl, trivial⟩ ⟨rfl, rfl, trivial⟩) ⟨{ (default : Nd) with kind := l[k]!.kind, text := l[k]!.text }, (k : Int), by rw [fstN]; simp [*, -List.getElem!_eq_getElem?_getD], rfl, rfl⟩ | exact toQ.mk (Gh.weak [(5, vC (.ptr 5 0)), (6, vC (.ptr 6 0)), (7, vI (fstN l k))] [(5, some (.pbox (encN l[k]!))), (6, some (.pbox (encN { (default : Nd) with kind := l[k]!.kind, a := (k : Int) - 1 })))] ⟨rfl, rfl, rfl, trivial⟩ ⟨rfl, rfl, trivial⟩) ⟨{ (default : Nd) with kind := l[k]!.kind, a := (k : Int) - 1 }, fstN l k, by rw [fstN]; simp [*, -List.getElem!_eq_getElem?_getD], rfl, rfl⟩ | exact toQ.mk (Gh.weak [(5, vC (.ptr 5 0)), (6, vC (.ptr 6 0)), (7, vI (fstN l k))] [(5, some (.pbox (encN l[k]!))), (6, some (.pbox (encN { (default : Nd) with kind := l[k]!.kind, a := (k : Int) - 1, lo := l[k]!.lo, hi := l[k]!.hi })))] ⟨rfl, rfl, rfl, trivial⟩ ⟨rfl, rfl, trivial⟩) ⟨{ (default : Nd) with kind := l[k]!.kind, a := (k : Int) - 1, lo := l[k]!.lo, hi := l[k]!.hi }, fstN l k, by rw [fstN]; simp [*, -List.getElem!_eq_getElem?_getD], rfl, rfl⟩ | exact toQ.mk (Gh.weak [(5, vC (.ptr 5 0)), (6, vC (.ptr 6 0)), (7, vI (fstN l (fstN l k).toNat))] [(5, some (.pbox (encN l[k]!))), (6, some (.pbox (encN { (default : Nd) with kind := l[k]!.kind, b := (k : Int) - 1, a := fstN l k - 1 })))] ⟨rfl, rfl, rfl, trivial⟩ ⟨rfl, rfl, trivial⟩) ⟨{ (default : Nd) with kind := l[k]!.kind, b := (k : Int) - 1, a := fstN l k - 1 }, fstN l (fstN l k).toNat, by rw [fstN]; simp [*, -List.getElem!_eq_getElem?_getD], rfl, rfl⟩
                    · try simp only [decide_eq_true_eq, decide_eq_false_iff_not, beq_iff_eq, beq_eq_false_iff_ne, bne_iff_ne, bne_eq_false_iff_eq, ne_eq, Bool.not_eq_true', Bool.not_eq_false', Decidable.not_not, Int.toNat_natCast] at hc25
                      refine J.seq ?_
                      refine J.region ?_
                      refine R.assign (GOk.no rfl) rfl rfl ?_
                      refine Run.nil ⟨by kernel_rfl, ?_⟩
                      refine J.ret ?_
                      first | exact FinQ.of ⟨ret_eq rfl (svI (by have e : j = 0 := (by omega); subst e; rw [fstN])), trivial⟩ trivial | exact FinQ.of ⟨ret_eq rfl (svI (by rw [hM, if_pos (show l[k]!.same wn = true from hc2)])), trivial⟩ trivial | exact FinQ.of ⟨ret_eq rfl (svI (by rw [hM, if_neg (show ¬ (l[k]!.same wn = true) from by rw [hc2]; decide)])), trivial⟩ trivial | exact FinQ.of ⟨ret_eq rfl (svI (by omega)), trivial⟩ trivial | exact FinQ.of ⟨ret_eq rfl (svI (by rw [fstN]; simp [*, -List.getElem!_eq_getElem?_getD])), trivial⟩ trivial
                  · try simp only [decide_eq_true_eq, decide_eq_false_iff_not, beq_iff_eq, beq_eq_false_iff_ne, bne_iff_ne, bne_eq_false_iff_eq, ne_eq, Bool.not_eq_true', Bool.not_eq_false', Decidable.not_not, Int.toNat_natCast] at hc24
                    refine J.region ?_
                    refine R.eql (GOk.no rfl) rfl rfl rfl ?_
                    refine R.assign (GOk.no rfl) rfl rfl ?_
                    refine Run.nil ⟨by kernel_rfl, ?_⟩
                    refine J.cond rfl (fun hc27 => ?_) (fun hc27 => ?_)
                    · try simp only [decide_eq_true_eq, decide_eq_false_iff_not, beq_iff_eq, beq_eq_false_iff_ne, bne_iff_ne, bne_eq_false_iff_eq, ne_eq, Bool.not_eq_true', Bool.not_eq_false', Decidable.not_not, Int.toNat_natCast] at hc27
                      refine J.seq ?_
                      refine J.region ?_
                      refine R.move (GOk.no rfl) rfl rfl ?_
                      refine R.sub (GOk.no rfl) rfl rfl rfl ⟨by omega, by omega⟩ ?_
                      first | refine R.fldPtr Tryd.underlying32 rfl Tryd.sizeOf3 rfl (GOk.no rfl) rfl rfl ?_ | refine R.fldAt Tryd.underlying32 rfl Tryd.sizeOf3 rfl (GOk.no rfl) rfl rfl ?_ | refine R.fldEl Tryd.underlying32 rfl Tryd.sizeOf3 rfl (GOk.no rfl) rfl rfl ?_
                      first | refine R.stP Tryd.sizeOf3 (GOk.no rfl) rfl rfl rfl rfl rfl (Nat.le_of_ble_eq_true rfl) ?_ | refine R.stPB Tryd.sizeOf3 (GOk.no rfl) rfl rfl rfl rfl rfl ?_ | refine R.stB Tryd.sizeOf3 (GOk.no rfl) rfl rfl rfl rfl (Nat.le_of_ble_eq_true rfl) ?_
                      refine Run.nil ⟨by kernel_rfl, ?_⟩
                      refine J.seq ?_
                      refine J.region ?_
                      refine R.move (GOk.no rfl) rfl rfl ?_
                      refine R.move (GOk.no rfl) rfl rfl ?_
                      refine R.sub (GOk.no rfl) rfl rfl rfl ⟨by omega, by omega⟩ ?_
                      refine R.call [((.tmp 79), _), ((.tmp 81), _)] (ih k (by omega) (by omega)) rfl (GOk.no rfl) rfl ⟨rfl, rfl, trivial⟩ ?_
                      refine R.assign (GOk.no rfl) rfl rfl ?_
                      refine Run.nil ⟨by kernel_rfl, ?_⟩
                      refine J.seq ?_
                      refine J.seq ?_
                      refine J.region ?_
                      refine R.move (GOk.no rfl) rfl rfl ?_
                      refine R.lss (GOk.no rfl) rfl rfl rfl ?_
                      refine Run.nil ⟨by kernel_rfl, ?_⟩
                      refine J.cond rfl (fun hc28 => ?_) (fun hc28 => ?_)
                      · try simp only [decide_eq_true_eq, decide_eq_false_iff_not, beq_iff_eq, beq_eq_false_iff_ne, bne_iff_ne, bne_eq_false_iff_eq, ne_eq, Bool.not_eq_true', Bool.not_eq_false', Decidable.not_not, Int.toNat_natCast] at hc28
                        refine J.seq ?_
                        refine J.region ?_
                        refine R.assign (GOk.no rfl) rfl rfl ?_
                        refine Run.nil ⟨by kernel_rfl, ?_⟩
                        refine J.ret ?_
                        first | exact FinQ.of ⟨ret_eq rfl (svI (by have e : j = 0 := (by omega); subst e; rw [fstN])), trivial⟩ trivial | exact FinQ.of ⟨ret_eq rfl (svI (by rw [hM, if_pos (show l[k]!.same wn = true from hc2)])), trivial⟩ trivial | exact FinQ.of ⟨ret_eq rfl (svI (by rw [hM, if_neg (show ¬ (l[k]!.same wn = true) from by rw [hc2]; decide)])), trivial⟩ trivial | exact FinQ.of ⟨ret_eq rfl (svI (by omega)), trivial⟩ trivial | exact FinQ.of ⟨ret_eq rfl (svI (by rw [fstN]; simp [*, -List.getElem!_eq_getElem?_getD])), trivial⟩ trivial
                      · try simp only [decide_eq_true_eq, decide_eq_false_iff_not, beq_iff_eq, beq_eq_false_iff_ne, bne_iff_ne, bne_eq_false_iff_eq, ne_eq, Bool.not_eq_true', Bool.not_eq_false', Decidable.not_not, Int.toNat_natCast] at hc28
                        refine J.skip ?_
                        refine J.seq ?_
                        refine J.region ?_
                        refine R.move (GOk.no rfl) rfl rfl ?_
                        refine R.sub (GOk.no rfl) rfl rfl rfl ⟨by omega, by omega⟩ ?_
                        first | refine R.fldPtr Tryd.underlying32 rfl Tryd.sizeOf3 rfl (GOk.no rfl) rfl rfl ?_ | refine R.fldAt Tryd.underlying32 rfl Tryd.sizeOf3 rfl (GOk.no rfl) rfl rfl ?_ | refine R.fldEl Tryd.underlying32 rfl Tryd.sizeOf3 rfl (GOk.no rfl) rfl rfl ?_
                        first | refine R.stP Tryd.sizeOf3 (GOk.no rfl) rfl rfl rfl rfl rfl (Nat.le_of_ble_eq_true rfl) ?_ | refine R.stPB Tryd.sizeOf3 (GOk.no rfl) rfl rfl rfl rfl rfl ?_ | refine R.stB Tryd.sizeOf3 (GOk.no rfl) rfl rfl rfl rfl (Nat.le_of_ble_eq_true rfl) ?_
                        refine Run.nil ⟨by kernel_rfl, ?_⟩
                        refine J.region ?_
                        refine R.move (GOk.no rfl) rfl rfl ?_
                        refine R.move (GOk.no rfl) rfl rfl ?_
                        refine R.sub (GOk.no rfl) rfl rfl rfl ⟨by omega, by omega⟩ ?_
                        refine R.spell 90 rfl (show _ = vI (((fstN l k).toNat : Nat) - 1 : Int) from vI_eq (by omega)) ?_
                        refine R.call [((.tmp 88), _), ((.tmp 90), _)] (ih (fstN l k).toNat (by omega) (by omega)) rfl (GOk.no rfl) rfl ⟨rfl, rfl, trivial⟩ ?_
                        refine R.assign (GOk.no rfl) rfl rfl ?_
                        refine Run.nil ⟨by kernel_rfl, ?_⟩
                        first | (exfalso; omega) | exact toQ.mk (Gh.weak [(5, vC (.ptr 5 0)), (6, vC (.ptr 6 0)), (7, vI ((k : Int)))] [(5, some (.pbox (encN l[k]!))), (6, some (.pbox (encN { (default : Nd) with kind := l[k]!.kind })))] ⟨rfl, rfl, rfl, trivial⟩ ⟨rfl, rfl, trivial⟩) ⟨{ (default : Nd) with kind := l[k]!.kind }, (k : Int), by rw [fstN]; simp [*, -List.getElem!_eq_getElem?_getD], rfl, rfl⟩ | exact toQ.mk (Gh.weak [(5, vC (.ptr 5 0)), (6, vC (.ptr 6 0)), (7, vI ((k : Int)))] [(5, some (.pbox (encN l[k]!))), (6, some (.pbox (encN { (default : Nd) with kind := l[k]!.kind, cls := l[k]!.cls })))] ⟨rfl, rfl, rfl, trivial⟩ ⟨rfl, rfl, trivial⟩) ⟨{ (default : Nd) with kind := l[k]!.kind, cls := l[k]!.cls }, (k : Int), by rw [fstN]; simp [*, -List.getElem!_eq_getElem?_getD], rfl, rfl⟩ | exact toQ.mk (Gh.weak [(5, vC (.ptr 5 0)), (6, vC (.ptr 6 0)), (7, vI ((k : Int)))] [(5, some (.pbox (encN l[k]!))), (6, some (.pbox (encN { (default : Nd) with kind := l[k]!.kind, text := l[k]!.text })))] ⟨rfl, rfl, rfl, trivial⟩ ⟨rfl, rfl, trivial⟩) ⟨{ (default : Nd) with kind := l[k]!.kind, text := l[k]!.text }, (k : Int), by rw [fstN]; simp [*, -List.getElem!_eq_getElem?_getD], rfl, rfl⟩ | exact toQ.mk (Gh.weak [(5, vC (.ptr 5 0)), (6, vC (.ptr 6 0)), (7, vI (fstN l k))] [(5, some (.pbox (encN l[k]!))), (6, some (.pbox (encN { (default : Nd) with kind := l[k]!.kind, a := (k : Int) - 1 })))] ⟨rfl, rfl, rfl, trivial⟩ ⟨rfl, rfl, trivial⟩) ⟨{ (default : Nd) with kind := l[k]!.kind, a := (k : Int) - 1 }, fstN l k, by rw [fstN]; simp [*, -List.getElem!_eq_getElem?_getD], rfl, rfl⟩ | exact toQ.mk (Gh.weak [(5, vC (.ptr 5 0)), (6, vC (.ptr 6 0)), (7, vI (fstN l k))] [(5, some (.pbox (encN l[k]!))), (6, some (.pbox (encN { (default : Nd) with kind := l[k]!.kind, a := (k : Int) - 1, lo := l[k]!.lo, hi := l[k]!.hi })))] ⟨rfl, rfl, rfl, trivial⟩ ⟨rfl, rfl, trivial⟩) ⟨{ (default : Nd) with kind := l[k]!.kind, a := (k : Int) - 1, lo := l[k]!.lo, hi := l[k]!.hi }, fstN l k, by rw [fstN]; simp [*, -List.getElem!_eq_getElem?_getD], rfl, rfl⟩ | exact toQ.mk (Gh.weak [(5, vC (.ptr 5 0)), (6, vC (.ptr 6 0)), (7, vI (fstN l (fstN l k).toNat))] [(5, some (.pbox (encN l[k]!))), (6, some (.pbox (encN { (default : Nd) with kind := l[k]!.kind, b := (k : Int) - 1, a := fstN l k - 1 })))] ⟨rfl, rfl, rfl, trivial⟩ ⟨rfl, rfl, trivial⟩) ⟨{ (default : Nd) with kind := l[k]!.kind, b := (k : Int) - 1, a := fstN l k - 1 }, fstN l (fstN l k).toNat, by rw [fstN]; simp [*, -List.getElem!_eq_getElem?_getD], rfl, rfl⟩
                    · try simp only [decide_eq_true_eq, decide_eq_false_iff_not, beq_iff_eq, beq_eq_false_iff_ne, bne_iff_ne, bne_eq_false_iff_eq, ne_eq, Bool.not_eq_true', Bool.not_eq_false', Decidable.not_not, Int.toNat_natCast] at hc27
                      refine J.seq ?_
                      refine J.region ?_
                      refine R.assign (GOk.no rfl) rfl rfl ?_
                      refine Run.nil ⟨by kernel_rfl, ?_⟩
                      refine J.ret ?_
                      first | exact FinQ.of ⟨ret_eq rfl (svI (by have e : j = 0 := (by omega); subst e; rw [fstN])), trivial⟩ trivial | exact FinQ.of ⟨ret_eq rfl (svI (by rw [hM, if_pos (show l[k]!.same wn = true from hc2)])), trivial⟩ trivial | exact FinQ.of ⟨ret_eq rfl (svI (by rw [hM, if_neg (show ¬ (l[k]!.same wn = true) from by rw [hc2]; decide)])), trivial⟩ trivial | exact FinQ.of ⟨ret_eq rfl (svI (by omega)), trivial⟩ trivial | exact FinQ.of ⟨ret_eq rfl (svI (by rw [fstN]; simp [*, -List.getElem!_eq_getElem?_getD])), trivial⟩ trivial
              · try simp only [decide_eq_true_eq, decide_eq_false_iff_not, beq_iff_eq, beq_eq_false_iff_ne, bne_iff_ne, bne_eq_false_iff_eq, ne_eq, Bool.not_eq_true', Bool.not_eq_false', Decidable.not_not, Int.toNat_natCast] at hc18
                refine J.seq ?_
                refine J.region ?_
                refine R.eql (GOk.no rfl) rfl rfl rfl ?_
                refine R.assign (GOk.no rfl) rfl rfl ?_
                refine Run.nil ⟨by kernel_rfl, ?_⟩
                refine J.cond rfl (fun hc29 => ?_) (fun hc29 => ?_)
                · try simp only [decide_eq_true_eq, decide_eq_false_iff_not, beq_iff_eq, beq_eq_false_iff_ne, bne_iff_ne, bne_eq_false_iff_eq, ne_eq, Bool.not_eq_true', Bool.not_eq_false', Decidable.not_not, Int.toNat_natCast] at hc29
                  refine J.skip ?_
                  refine J.cond rfl (fun hc30 => ?_) (fun hc30 => ?_)
                  · try simp only [decide_eq_true_eq, decide_eq_false_iff_not, beq_iff_eq, beq_eq_false_iff_ne, bne_iff_ne, bne_eq_false_iff_eq, ne_eq, Bool.not_eq_true', Bool.not_eq_false', Decidable.not_not, Int.toNat_natCast] at hc30
                    refine J.seq ?_
                    refine J.region ?_
                    refine R.move (GOk.no rfl) rfl rfl ?_
                    refine R.sub (GOk.no rfl) rfl rfl rfl ⟨by omega, by omega⟩ ?_
                    first | refine R.fldPtr Tryd.underlying32 rfl Tryd.sizeOf3 rfl (GOk.no rfl) rfl rfl ?_ | refine R.fldAt Tryd.underlying32 rfl Tryd.sizeOf3 rfl (GOk.no rfl) rfl rfl ?_ | refine R.fldEl Tryd.underlying32 rfl Tryd.sizeOf3 rfl (GOk.no rfl) rfl rfl ?_
                    first | refine R.stP Tryd.sizeOf3 (GOk.no rfl) rfl rfl rfl rfl rfl (Nat.le_of_ble_eq_true rfl) ?_ | refine R.stPB Tryd.sizeOf3 (GOk.no rfl) rfl rfl rfl rfl rfl ?_ | refine R.stB Tryd.sizeOf3 (GOk.no rfl) rfl rfl rfl rfl (Nat.le_of_ble_eq_true rfl) ?_
                    refine Run.nil ⟨by kernel_rfl, ?_⟩
                    refine J.seq ?_
                    refine J.seq ?_
                    refine J.region ?_
                    first | refine R.fldPtr Tryd.underlying32 rfl Tryd.sizeOf3 rfl (GOk.no rfl) rfl rfl ?_ | refine R.fldAt Tryd.underlying32 rfl Tryd.sizeOf3 rfl (GOk.no rfl) rfl rfl ?_ | refine R.fldEl Tryd.underlying32 rfl Tryd.sizeOf3 rfl (GOk.no rfl) rfl rfl ?_
                    first | refine R.ldP1 Tryd.isAgg3 (GOk.no rfl) rfl rfl rfl rfl ?_ | refine R.ldAt1 Tryd.isAgg3 (GOk.no rfl) rfl rfl rfl ?_ | refine R.ldB1 Tryd.isAgg3 (GOk.no rfl) rfl rfl rfl rfl ?_ | refine R.ldElM1 Tryd.isAgg3 (GOk.no rfl) rfl rfl rfl (by omega) rfl ?_
                    refine R.eql (GOk.no rfl) rfl rfl rfl ?_
                    refine Run.nil ⟨by kernel_rfl, ?_⟩
                    refine J.cond rfl (fun hc31 => ?_) (fun hc31 => ?_)
                    · try simp only [decide_eq_true_eq, decide_eq_false_iff_not, beq_iff_eq, beq_eq_false_iff_ne, bne_iff_ne, bne_eq_false_iff_eq, ne_eq, Bool.not_eq_true', Bool.not_eq_false', Decidable.not_not, Int.toNat_natCast] at hc31
                      refine J.seq ?_
                      refine J.region ?_
                      first | refine R.fldPtr Tryd.underlying32 rfl Tryd.sizeOf3 rfl (GOk.no rfl) rfl rfl ?_ | refine R.fldAt Tryd.underlying32 rfl Tryd.sizeOf3 rfl (GOk.no rfl) rfl rfl ?_ | refine R.fldEl Tryd.underlying32 rfl Tryd.sizeOf3 rfl (GOk.no rfl) rfl rfl ?_
                      first | refine R.ldP1 Tryd.isAgg3 (GOk.no rfl) rfl rfl rfl rfl ?_ | refine R.ldAt1 Tryd.isAgg3 (GOk.no rfl) rfl rfl rfl ?_ | refine R.ldB1 Tryd.isAgg3 (GOk.no rfl) rfl rfl rfl rfl ?_ | refine R.ldElM1 Tryd.isAgg3 (GOk.no rfl) rfl rfl rfl (by omega) rfl ?_
                      first | refine R.fldPtr Tryd.underlying32 rfl Tryd.sizeOf3 rfl (GOk.no rfl) rfl rfl ?_ | refine R.fldAt Tryd.underlying32 rfl Tryd.sizeOf3 rfl (GOk.no rfl) rfl rfl ?_ | refine R.fldEl Tryd.underlying32 rfl Tryd.sizeOf3 rfl (GOk.no rfl) rfl rfl ?_
                      first | refine R.stP Tryd.sizeOf3 (GOk.no rfl) rfl rfl rfl rfl rfl (Nat.le_of_ble_eq_true rfl) ?_ | refine R.stPB Tryd.sizeOf3 (GOk.no rfl) rfl rfl rfl rfl rfl ?_ | refine R.stB Tryd.sizeOf3 (GOk.no rfl) rfl rfl rfl rfl (Nat.le_of_ble_eq_true rfl) ?_
                      refine Run.nil ⟨by kernel_rfl, ?_⟩
                      refine J.seq ?_
                      refine J.region ?_
                      first | refine R.fldPtr Tryd.underlying32 rfl Tryd.sizeOf3 rfl (GOk.no rfl) rfl rfl ?_ | refine R.fldAt Tryd.underlying32 rfl Tryd.sizeOf3 rfl (GOk.no rfl) rfl rfl ?_ | refine R.fldEl Tryd.underlying32 rfl Tryd.sizeOf3 rfl (GOk.no rfl) rfl rfl ?_
                      first | refine R.ldP1 Tryd.isAgg3 (GOk.no rfl) rfl rfl rfl rfl ?_ | refine R.ldAt1 Tryd.isAgg3 (GOk.no rfl) rfl rfl rfl ?_ | refine R.ldB1 Tryd.isAgg3 (GOk.no rfl) rfl rfl rfl rfl ?_ | refine R.ldElM1 Tryd.isAgg3 (GOk.no rfl) rfl rfl rfl (by omega) rfl ?_
                      first | refine R.fldPtr Tryd.underlying32 rfl Tryd.sizeOf3 rfl (GOk.no rfl) rfl rfl ?_ | refine R.fldAt Tryd.underlying32 rfl Tryd.sizeOf3 rfl (GOk.no rfl) rfl rfl ?_ | refine R.fldEl Tryd.underlying32 rfl Tryd.sizeOf3 rfl (GOk.no rfl) rfl rfl ?_
                      first | refine R.stP Tryd.sizeOf3 (GOk.no rfl) rfl rfl rfl rfl rfl (Nat.le_of_ble_eq_true rfl) ?_ | refine R.stPB Tryd.sizeOf3 (GOk.no rfl) rfl rfl rfl rfl rfl ?_ | refine R.stB Tryd.sizeOf3 (GOk.no rfl) rfl rfl rfl rfl (Nat.le_of_ble_eq_true rfl) ?_
                      refine Run.nil ⟨by kernel_rfl, ?_⟩
                      refine J.seq ?_
                      refine J.region ?_
                      first | refine R.fldPtr Tryd.underlying32 rfl Tryd.sizeOf3 rfl (GOk.no rfl) rfl rfl ?_ | refine R.fldAt Tryd.underlying32 rfl Tryd.sizeOf3 rfl (GOk.no rfl) rfl rfl ?_ | refine R.fldEl Tryd.underlying32 rfl Tryd.sizeOf3 rfl (GOk.no rfl) rfl rfl ?_
                      first | refine R.ldP1 Tryd.isAgg3 (GOk.no rfl) rfl rfl rfl rfl ?_ | refine R.ldAt1 Tryd.isAgg3 (GOk.no rfl) rfl rfl rfl ?_ | refine R.ldB1 Tryd.isAgg3 (GOk.no rfl) rfl rfl rfl rfl ?_ | refine R.ldElM1 Tryd.isAgg3 (GOk.no rfl) rfl rfl rfl (by omega) rfl ?_
                      refine R.lss (GOk.no rfl) rfl rfl rfl ?_
                      refine R.move (GOk.no rfl) rfl rfl ?_
                      refine R.case 57 rfl (fun hg32 => ?_) (fun hg32 => ?_)
                      · try simp only [decide_eq_true_eq, decide_eq_false_iff_not, beq_iff_eq, beq_eq_false_iff_ne, bne_iff_ne, bne_eq_false_iff_eq, ne_eq, Bool.not_eq_true', Bool.not_eq_false', Decidable.not_not, Int.toNat_natCast] at hg32
                        refine R.pass (GOk.of rfl rfl rfl _ rfl) rfl ?_
                        refine R.pass (GOk.of rfl rfl rfl _ rfl) rfl ?_
                        refine R.pass (GOk.of rfl rfl rfl _ rfl) rfl ?_
                        refine R.pass (GOk.of rfl rfl rfl _ rfl) rfl ?_
                        refine R.pass (GOk.of rfl rfl rfl _ rfl) rfl ?_
                        first | refine R.pickT (GOk.no rfl) rfl rfl rfl ?_ | refine R.pickF (GOk.no rfl) rfl rfl rfl ?_
                        refine R.move (GOk.no rfl) rfl rfl ?_
                        refine R.pass (GOk.of rfl rfl rfl _ rfl) rfl ?_
                        refine R.pass (GOk.of rfl rfl rfl _ rfl) rfl ?_
                        refine R.pass (GOk.of rfl rfl rfl _ rfl) rfl ?_
                        first | refine R.pickT (GOk.no rfl) rfl rfl rfl ?_ | refine R.pickF (GOk.no rfl) rfl rfl rfl ?_
                        refine Run.nil ⟨by kernel_rfl, ?_⟩
                        refine J.condT rfl ?_
                        refine J.seq ?_
                        refine J.region ?_
                        refine R.assign (GOk.no rfl) rfl rfl ?_
                        refine Run.nil ⟨by kernel_rfl, ?_⟩
                        refine J.ret ?_
                        first | exact FinQ.of ⟨ret_eq rfl (svI (by have e : j = 0 := (by omega); subst e; rw [fstN])), trivial⟩ trivial | exact FinQ.of ⟨ret_eq rfl (svI (by rw [hM, if_pos (show l[k]!.same wn = true from hc2)])), trivial⟩ trivial | exact FinQ.of ⟨ret_eq rfl (svI (by rw [hM, if_neg (show ¬ (l[k]!.same wn = true) from by rw [hc2]; decide)])), trivial⟩ trivial | exact FinQ.of ⟨ret_eq rfl (svI (by omega)), trivial⟩ trivial | exact FinQ.of ⟨ret_eq rfl (svI (by rw [fstN]; simp [*, -List.getElem!_eq_getElem?_getD])), trivial⟩ trivial
                      · try simp only [decide_eq_true_eq, decide_eq_false_iff_not, beq_iff_eq, beq_eq_false_iff_ne, bne_iff_ne, bne_eq_false_iff_eq, ne_eq, Bool.not_eq_true', Bool.not_eq_false', Decidable.not_not, Int.toNat_natCast] at hg32
                        first | refine R.fldPtr Tryd.underlying32 rfl Tryd.sizeOf3 rfl (GOk.of rfl rfl rfl _ rfl) rfl rfl ?_ | refine R.fldAt Tryd.underlying32 rfl Tryd.sizeOf3 rfl (GOk.of rfl rfl rfl _ rfl) rfl rfl ?_ | refine R.fldEl Tryd.underlying32 rfl Tryd.sizeOf3 rfl (GOk.of rfl rfl rfl _ rfl) rfl rfl ?_
                        first | refine R.ldP1 Tryd.isAgg3 (GOk.of rfl rfl rfl _ rfl) rfl rfl rfl rfl ?_ | refine R.ldAt1 Tryd.isAgg3 (GOk.of rfl rfl rfl _ rfl) rfl rfl rfl ?_ | refine R.ldB1 Tryd.isAgg3 (GOk.of rfl rfl rfl _ rfl) rfl rfl rfl rfl ?_ | refine R.ldElM1 Tryd.isAgg3 (GOk.of rfl rfl rfl _ rfl) rfl rfl rfl (by omega) rfl ?_
                        first | refine R.fldPtr Tryd.underlying32 rfl Tryd.sizeOf3 rfl (GOk.of rfl rfl rfl _ rfl) rfl rfl ?_ | refine R.fldAt Tryd.underlying32 rfl Tryd.sizeOf3 rfl (GOk.of rfl rfl rfl _ rfl) rfl rfl ?_ | refine R.fldEl Tryd.underlying32 rfl Tryd.sizeOf3 rfl (GOk.of rfl rfl rfl _ rfl) rfl rfl ?_
                        first | refine R.ldP1 Tryd.isAgg3 (GOk.of rfl rfl rfl _ rfl) rfl rfl rfl rfl ?_ | refine R.ldAt1 Tryd.isAgg3 (GOk.of rfl rfl rfl _ rfl) rfl rfl rfl ?_ | refine R.ldB1 Tryd.isAgg3 (GOk.of rfl rfl rfl _ rfl) rfl rfl rfl rfl ?_ | refine R.ldElM1 Tryd.isAgg3 (GOk.of rfl rfl rfl _ rfl) rfl rfl rfl (by omega) rfl ?_
                        refine R.gtr (GOk.of rfl rfl rfl _ rfl) rfl rfl rfl ?_
                        first | refine R.pickT (GOk.no rfl) rfl rfl rfl ?_ | refine R.pickF (GOk.no rfl) rfl rfl rfl ?_
                        refine R.move (GOk.no rfl) rfl rfl ?_
                        refine R.case 64 rfl (fun hg33 => ?_) (fun hg33 => ?_)
                        · try simp only [decide_eq_true_eq, decide_eq_false_iff_not, beq_iff_eq, beq_eq_false_iff_ne, bne_iff_ne, bne_eq_false_iff_eq, ne_eq, Bool.not_eq_true', Bool.not_eq_false', Decidable.not_not, Int.toNat_natCast] at hg33
                          refine R.pass (GOk.of rfl rfl rfl _ rfl) rfl ?_
                          refine R.pass (GOk.of rfl rfl rfl _ rfl) rfl ?_
                          refine R.pass (GOk.of rfl rfl rfl _ rfl) rfl ?_
                          first | refine R.pickT (GOk.no rfl) rfl rfl rfl ?_ | refine R.pickF (GOk.no rfl) rfl rfl rfl ?_
                          refine Run.nil ⟨by kernel_rfl, ?_⟩
                          refine J.condT rfl ?_
                          refine J.seq ?_
                          refine J.region ?_
                          refine R.assign (GOk.no rfl) rfl rfl ?_
                          refine Run.nil ⟨by kernel_rfl, ?_⟩
                          refine J.ret ?_
                          first | exact FinQ.of ⟨ret_eq rfl (svI (by have e : j = 0 := (by omega); subst e; rw [fstN])), trivial⟩ trivial | exact FinQ.of ⟨ret_eq rfl (svI (by rw [hM, if_pos (show l[k]!.same wn = true from hc2)])), trivial⟩ trivial | exact FinQ.of ⟨ret_eq rfl (svI (by rw [hM, if_neg (show ¬ (l[k]!.same wn = true) from by rw [hc2]; decide)])), trivial⟩ trivial | exact FinQ.of ⟨ret_eq rfl (svI (by omega)), trivial⟩ trivial | exact FinQ.of ⟨ret_eq rfl (svI (by rw [fstN]; simp [*, -List.getElem!_eq_getElem?_getD])), trivial⟩ trivial
                        · try simp only [decide_eq_true_eq, decide_eq_false_iff_not, beq_iff_eq, beq_eq_false_iff_ne, bne_iff_ne, bne_eq_false_iff_eq, ne_eq, Bool.not_eq_true', Bool.not_eq_false', Decidable.not_not, Int.toNat_natCast] at hg33
                          first | refine R.fldPtr Tryd.underlying32 rfl Tryd.sizeOf3 rfl (GOk.of rfl rfl rfl _ rfl) rfl rfl ?_ | refine R.fldAt Tryd.underlying32 rfl Tryd.sizeOf3 rfl (GOk.of rfl rfl rfl _ rfl) rfl rfl ?_ | refine R.fldEl Tryd.underlying32 rfl Tryd.sizeOf3 rfl (GOk.of rfl rfl rfl _ rfl) rfl rfl ?_
                          first | refine R.ldP1 Tryd.isAgg3 (GOk.of rfl rfl rfl _ rfl) rfl rfl rfl rfl ?_ | refine R.ldAt1 Tryd.isAgg3 (GOk.of rfl rfl rfl _ rfl) rfl rfl rfl ?_ | refine R.ldB1 Tryd.isAgg3 (GOk.of rfl rfl rfl _ rfl) rfl rfl rfl rfl ?_ | refine R.ldElM1 Tryd.isAgg3 (GOk.of rfl rfl rfl _ rfl) rfl rfl rfl (by omega) rfl ?_
                          refine R.gtr (GOk.of rfl rfl rfl _ rfl) rfl rfl rfl ?_
                          first | refine R.pickT (GOk.no rfl) rfl rfl rfl ?_ | refine R.pickF (GOk.no rfl) rfl rfl rfl ?_
                          refine Run.nil ⟨by kernel_rfl, ?_⟩
                          refine J.cond rfl (fun hc34 => ?_) (fun hc34 => ?_)
                          · try simp only [decide_eq_true_eq, decide_eq_false_iff_not, beq_iff_eq, beq_eq_false_iff_ne, bne_iff_ne, bne_eq_false_iff_eq, ne_eq, Bool.not_eq_true', Bool.not_eq_false', Decidable.not_not, Int.toNat_natCast] at hc34
                            refine J.seq ?_
                            refine J.region ?_
                            refine R.assign (GOk.no rfl) rfl rfl ?_
                            refine Run.nil ⟨by kernel_rfl, ?_⟩
                            refine J.ret ?_
                            first | exact FinQ.of ⟨ret_eq rfl (svI (by have e : j = 0 := (by omega); subst e; rw [fstN])), trivial⟩ trivial | exact FinQ.of ⟨ret_eq rfl (svI (by rw [hM, if_pos (show l[k]!.same wn = true from hc2)])), trivial⟩ trivial | exact FinQ.of ⟨ret_eq rfl (svI (by rw [hM, if_neg (show ¬ (l[k]!.same wn = true) from by rw [hc2]; decide)])), trivial⟩ trivial | exact FinQ.of ⟨ret_eq rfl (svI (by omega)), trivial⟩ trivial | exact FinQ.of ⟨ret_eq rfl (svI (by rw [fstN]; simp [*, -List.getElem!_eq_getElem?_getD])), trivial⟩ trivial
                          · try simp only [decide_eq_true_eq, decide_eq_false_iff_not, beq_iff_eq, beq_eq_false_iff_ne, bne_iff_ne, bne_eq_false_iff_eq, ne_eq, Bool.not_eq_true', Bool.not_eq_false', Decidable.not_not, Int.toNat_natCast] at hc34
                            refine J.skip ?_
                            refine J.region ?_
                            refine R.move (GOk.no rfl) rfl rfl ?_
                            refine R.move (GOk.no rfl) rfl rfl ?_
                            refine R.sub (GOk.no rfl) rfl rfl rfl ⟨by omega, by omega⟩ ?_
                            refine R.call [((.tmp 69), _), ((.tmp 71), _)] (ih k (by omega) (by omega)) rfl (GOk.no rfl) rfl ⟨rfl, rfl, trivial⟩ ?_
                            refine R.assign (GOk.no rfl) rfl rfl ?_
                            refine Run.nil ⟨by kernel_rfl, ?_⟩
                            first | (exfalso; omega) | exact toQ.mk (Gh.weak [(5, vC (.ptr 5 0)), (6, vC (.ptr 6 0)), (7, vI ((k : Int)))] [(5, some (.pbox (encN l[k]!))), (6, some (.pbox (encN { (default : Nd) with kind := l[k]!.kind })))] ⟨rfl, rfl, rfl, trivial⟩ ⟨rfl, rfl, trivial⟩) ⟨{ (default : Nd) with kind := l[k]!.kind }, (k : Int), by rw [fstN]; simp [*, -List.getElem!_eq_getElem?_getD], rfl, rfl⟩ | exact toQ.mk (Gh.weak [(5, vC (.ptr 5 0)), (6, vC (.ptr 6 0)), (7, vI ((k : Int)))] [(5, some (.pbox (encN l[k]!))), (6, some (.pbox (encN { (default : Nd) with kind := l[k]!.kind, cls := l[k]!.cls })))] ⟨rfl, rfl, rfl, trivial⟩ ⟨rfl, rfl, trivial⟩) ⟨{ (default : Nd) with kind := l[k]!.kind, cls := l[k]!.cls }, (k : Int), by rw [fstN]; simp [*, -List.getElem!_eq_getElem?_getD], rfl, rfl⟩ | exact toQ.mk (Gh.weak [(5, vC (.ptr 5 0)), (6, vC (.ptr 6 0)), (7, vI ((k : Int)))] [(5, some (.pbox (encN l[k]!))), (6, some (.pbox (encN { (default : Nd) with kind := l[k]!.kind, text := l[k]!.text })))] ⟨rfl, rfl, rfl, trivial⟩ ⟨rfl, rfl, trivial⟩) ⟨{ (default : Nd) with kind := l[k]!.kind, text := l[k]!.text }, (k : Int), by rw [fstN]; simp [*, -List.getElem!_eq_getElem?_getD], rfl, rfl⟩ | exact toQ.mk (Gh.weak [(5, vC (.ptr 5 0)), (6, vC (.ptr 6 0)), (7, vI (fstN l k))] [(5, some (.pbox (encN l[k]!))), (6, some (.pbox (encN { (default : Nd) with kind := l[k]!.kind, a := (k : Int) - 1 })))] ⟨rfl, rfl, rfl, trivial⟩ ⟨rfl, rfl, trivial⟩) ⟨{ (default : Nd) with kind := l[k]!.kind, a := (k : Int) - 1 }, fstN l k, by rw [fstN]; simp [*, -List.getElem!_eq_getElem?_getD], rfl, rfl⟩ | exact toQ.mk (Gh.weak [(5, vC (.ptr 5 0)), (6, vC (.ptr 6 0)), (7, vI (fstN l k))] [(5, some (.pbox (encN l[k]!))), (6, some (.pbox (encN { (default : Nd) with kind := l[k]!.kind, a := (k : Int) - 1, lo := l[k]!.lo, hi := l[k]!.hi })))] ⟨rfl, rfl, rfl, trivial⟩ ⟨rfl, rfl, trivial⟩) ⟨{ (default : Nd) with kind := l[k]!.kind, a := (k : Int) - 1, lo := l[k]!.lo, hi := l[k]!.hi }, fstN l k, by rw [fstN]; simp [*, -List.getElem!_eq_getElem?_getD], rfl, rfl⟩ | exact toQ.mk (Gh.weak [(5, vC (.ptr 5 0)), (6, vC (.ptr 6 0)), (7, vI (fstN l (fstN l k).toNat))] [(5, some (.pbox (encN l[k]!))), (6, some (.pbox (encN { (default : Nd) with kind := l[k]!.kind, b := (k : Int) - 1, a := fstN l k - 1 })))] ⟨rfl, rfl, rfl, trivial⟩ ⟨rfl, rfl, trivial⟩) ⟨{ (default : Nd) with kind := l[k]!.kind, b := (k : Int) - 1, a := fstN l k - 1 }, fstN l (fstN l k).toNat, by rw [fstN]; simp [*, -List.getElem!_eq_getElem?_getD], rfl, rfl⟩
                    · try simp only [decide_eq_true_eq, decide_eq_false_iff_not, beq_iff_eq, beq_eq_false_iff_ne, bne_iff_ne, bne_eq_false_iff_eq, ne_eq, Bool.not_eq_true', Bool.not_eq_false', Decidable.not_not, Int.toNat_natCast] at hc31
                      refine J.skip ?_
                      refine J.region ?_
                      refine R.move (GOk.no rfl) rfl rfl ?_
                      refine R.move (GOk.no rfl) rfl rfl ?_
                      refine R.sub (GOk.no rfl) rfl rfl rfl ⟨by omega, by omega⟩ ?_
                      refine R.call [((.tmp 69), _), ((.tmp 71), _)] (ih k (by omega) (by omega)) rfl (GOk.no rfl) rfl ⟨rfl, rfl, trivial⟩ ?_
                      refine R.assign (GOk.no rfl) rfl rfl ?_
                      refine Run.nil ⟨by kernel_rfl, ?_⟩
                      first | (exfalso; omega) | exact toQ.mk (Gh.weak [(5, vC (.ptr 5 0)), (6, vC (.ptr 6 0)), (7, vI ((k : Int)))] [(5, some (.pbox (encN l[k]!))), (6, some (.pbox (encN { (default : Nd) with kind := l[k]!.kind })))] ⟨rfl, rfl, rfl, trivial⟩ ⟨rfl, rfl, trivial⟩) ⟨{ (default : Nd) with kind := l[k]!.kind }, (k : Int), by rw [fstN]; simp [*, -List.getElem!_eq_getElem?_getD], rfl, rfl⟩ | exact toQ.mk (Gh.weak [(5, vC (.ptr 5 0)), (6, vC (.ptr 6 0)), (7, vI ((k : Int)))] [(5, some (.pbox (encN l[k]!))), (6, some (.pbox (encN { (default : Nd) with kind := l[k]!.kind, cls := l[k]!.cls })))] ⟨rfl, rfl, rfl, trivial⟩ ⟨rfl, rfl, trivial⟩) ⟨{ (default : Nd) with kind := l[k]!.kind, cls := l[k]!.cls }, (k : Int), by rw [fstN]; simp [*, -List.getElem!_eq_getElem?_getD], rfl, rfl⟩ | exact toQ.mk (Gh.weak [(5, vC (.ptr 5 0)), (6, vC (.ptr 6 0)), (7, vI ((k : Int)))] [(5, some (.pbox (encN l[k]!))), (6, some (.pbox (encN { (default : Nd) with kind := l[k]!.kind, text := l[k]!.text })))] ⟨rfl, rfl, rfl, trivial⟩ ⟨rfl, rfl, trivial⟩) ⟨{ (default : Nd) with kind := l[k]!.kind, text := l[k]!.text }, (k : Int), by rw [fstN]; simp [*, -List.getElem!_eq_getElem?_getD], rfl, rfl⟩ | exact toQ.mk (Gh.weak [(5, vC (.ptr 5 0)), (6, vC (.ptr 6 0)), (7, vI (fstN l k))] [(5, some (.pbox (encN l[k]!))), (6, some (.pbox (encN { (default : Nd) with kind := l[k]!.kind, a := (k : Int) - 1 })))] ⟨rfl, rfl, rfl, trivial⟩ ⟨rfl, rfl, trivial⟩) ⟨{ (default : Nd) with kind := l[k]!.kind, a := (k : Int) - 1 }, fstN l k, by rw [fstN]; simp [*, -List.getElem!_eq_getElem?_getD], rfl, rfl⟩ | exact toQ.mk (Gh.weak [(5, vC (.ptr 5 0)), (6, vC (.ptr 6 0)), (7, vI (fstN l k))] [(5, some (.pbox (encN l[k]!))), (6, some (.pbox (encN { (default : Nd) with kind := l[k]!.kind, a := (k : Int) - 1, lo := l[k]!.lo, hi := l[k]!.hi })))] ⟨rfl, rfl, rfl, trivial⟩ ⟨rfl, rfl, trivial⟩) ⟨{ (default : Nd) with kind := l[k]!.kind, a := (k : Int) - 1, lo := l[k]!.lo, hi := l[k]!.hi }, fstN l k, by rw [fstN]; simp [*, -List.getElem!_eq_getElem?_getD], rfl, rfl⟩ | exact toQ.mk (Gh.weak [(5, vC (.ptr 5 0)), (6, vC (.ptr 6 0)), (7, vI (fstN l (fstN l k).toNat))] [(5, some (.pbox (encN l[k]!))), (6, some (.pbox (encN { (default : Nd) with kind := l[k]!.kind, b := (k : Int) - 1, a := fstN l k - 1 })))] ⟨rfl, rfl, rfl, trivial⟩ ⟨rfl, rfl, trivial⟩) ⟨{ (default : Nd) with kind := l[k]!.kind, b := (k : Int) - 1, a := fstN l k - 1 }, fstN l (fstN l k).toNat, by rw [fstN]; simp [*, -List.getElem!_eq_getElem?_getD], rfl, rfl⟩
                  · try simp only [decide_eq_true_eq, decide_eq_false_iff_not, beq_iff_eq, beq_eq_false_iff_ne, bne_iff_ne, bne_eq_false_iff_eq, ne_eq, Bool.not_eq_true', Bool.not_eq_false', Decidable.not_not, Int.toNat_natCast] at hc30
                    refine J.seq ?_
                    refine J.seq ?_
                    refine J.region ?_
                    refine R.eql (GOk.no rfl) rfl rfl rfl ?_
                    refine R.assign (GOk.no rfl) rfl rfl ?_
                    refine Run.nil ⟨by kernel_rfl, ?_⟩
                    refine J.cond rfl (fun hc35 => ?_) (fun hc35 => ?_)
                    · try simp only [decide_eq_true_eq, decide_eq_false_iff_not, beq_iff_eq, beq_eq_false_iff_ne, bne_iff_ne, bne_eq_false_iff_eq, ne_eq, Bool.not_eq_true', Bool.not_eq_false', Decidable.not_not, Int.toNat_natCast] at hc35
                      refine J.skip ?_
                      refine J.cond rfl (fun hc36 => ?_) (fun hc36 => ?_)
                      · try simp only [decide_eq_true_eq, decide_eq_false_iff_not, beq_iff_eq, beq_eq_false_iff_ne, bne_iff_ne, bne_eq_false_iff_eq, ne_eq, Bool.not_eq_true', Bool.not_eq_false', Decidable.not_not, Int.toNat_natCast] at hc36
                        refine J.seq ?_
                        refine J.region ?_
                        refine R.move (GOk.no rfl) rfl rfl ?_
                        refine R.sub (GOk.no rfl) rfl rfl rfl ⟨by omega, by omega⟩ ?_
                        first | refine R.fldPtr Tryd.underlying32 rfl Tryd.sizeOf3 rfl (GOk.no rfl) rfl rfl ?_ | refine R.fldAt Tryd.underlying32 rfl Tryd.sizeOf3 rfl (GOk.no rfl) rfl rfl ?_ | refine R.fldEl Tryd.underlying32 rfl Tryd.sizeOf3 rfl (GOk.no rfl) rfl rfl ?_
                        first | refine R.stP Tryd.sizeOf3 (GOk.no rfl) rfl rfl rfl rfl rfl (Nat.le_of_ble_eq_true rfl) ?_ | refine R.stPB Tryd.sizeOf3 (GOk.no rfl) rfl rfl rfl rfl rfl ?_ | refine R.stB Tryd.sizeOf3 (GOk.no rfl) rfl rfl rfl rfl (Nat.le_of_ble_eq_true rfl) ?_
                        refine Run.nil ⟨by kernel_rfl, ?_⟩
                        refine J.seq ?_
                        refine J.region ?_
                        refine R.move (GOk.no rfl) rfl rfl ?_
                        refine R.move (GOk.no rfl) rfl rfl ?_
                        refine R.sub (GOk.no rfl) rfl rfl rfl ⟨by omega, by omega⟩ ?_
                        refine R.call [((.tmp 79), _), ((.tmp 81), _)] (ih k (by omega) (by omega)) rfl (GOk.no rfl) rfl ⟨rfl, rfl, trivial⟩ ?_
                        refine R.assign (GOk.no rfl) rfl rfl ?_
                        refine Run.nil ⟨by kernel_rfl, ?_⟩
                        refine J.seq ?_
                        refine J.seq ?_
                        refine J.region ?_
                        refine R.move (GOk.no rfl) rfl rfl ?_
                        refine R.lss (GOk.no rfl) rfl rfl rfl ?_
                        refine Run.nil ⟨by kernel_rfl, ?_⟩
                        refine J.cond rfl (fun hc37 => ?_) (fun hc37 => ?_)
                        · try simp only [decide_eq_true_eq, decide_eq_false_iff_not, beq_iff_eq, beq_eq_false_iff_ne, bne_iff_ne, bne_eq_false_iff_eq, ne_eq, Bool.not_eq_true', Bool.not_eq_false', Decidable.not_not, Int.toNat_natCast] at hc37
                          refine J.seq ?_
                          refine J.region ?_
                          refine R.assign (GOk.no rfl) rfl rfl ?_
                          refine Run.nil ⟨by kernel_rfl, ?_⟩
                          refine J.ret ?_
                          first | exact FinQ.of ⟨ret_eq rfl (svI (by have e : j = 0 := (by omega); subst e; rw [fstN])), trivial⟩ trivial | exact FinQ.of ⟨ret_eq rfl (svI (by rw [hM, if_pos (show l[k]!.same wn = true from hc2)])), trivial⟩ trivial | exact FinQ.of ⟨ret_eq rfl (svI (by rw [hM, if_neg (show ¬ (l[k]!.same wn = true) from by rw [hc2]; decide)])), trivial⟩ trivial | exact FinQ.of ⟨ret_eq rfl (svI (by omega)), trivial⟩ trivial | exact FinQ.of ⟨ret_eq rfl (svI (by rw [fstN]; simp [*, -List.getElem!_eq_getElem?_getD])), trivial⟩ trivial
                        · try simp only [decide_eq_true_eq, decide_eq_false_iff_not, beq_iff_eq, beq_eq_false_iff_ne, bne_iff_ne, bne_eq_false_iff_eq, ne_eq, Bool.not_eq_true', Bool.not_eq_false', Decidable.not_not, Int.toNat_natCast] at hc37
                          refine J.skip ?_
                          refine J.seq ?_
                          refine J.region ?_
                          refine R.move (GOk.no rfl) rfl rfl ?_
                          refine R.sub (GOk.no rfl) rfl rfl rfl ⟨by omega, by omega⟩ ?_
                          first | refine R.fldPtr Tryd.underlying32 rfl Tryd.sizeOf3 rfl (GOk.no rfl) rfl rfl ?_ | refine R.fldAt Tryd.underlying32 rfl Tryd.sizeOf3 rfl (GOk.no rfl) rfl rfl ?_ | refine R.fldEl Tryd.underlying32 rfl Tryd.sizeOf3 rfl (GOk.no rfl) rfl rfl ?_
                          first | refine R.stP Tryd.sizeOf3 (GOk.no rfl) rfl rfl rfl rfl rfl (Nat.le_of_ble_eq_true rfl) ?_ | refine R.stPB Tryd.sizeOf3 (GOk.no rfl) rfl rfl rfl rfl rfl ?_ | refine R.stB Tryd.sizeOf3 (GOk.no rfl) rfl rfl rfl rfl (Nat.le_of_ble_eq_true rfl) ?_
                          refine Run.nil ⟨by kernel_rfl, ?_⟩
                          refine J.region ?_
                          refine R.move (GOk.no rfl) rfl rfl ?_
                          refine R.move (GOk.no rfl) rfl rfl ?_
                          refine R.sub (GOk.no rfl) rfl rfl rfl ⟨by omega, by omega⟩ ?_
                          refine R.spell 90 rfl (show _ = vI (((fstN l k).toNat : Nat) - 1 : Int) from vI_eq (by omega)) ?_
                          refine R.call [((.tmp 88), _), ((.tmp 90), _)] (ih (fstN l k).toNat (by omega) (by omega)) rfl (GOk.no rfl) rfl ⟨rfl, rfl, trivial⟩ ?_
                          refine R.assign (GOk.no rfl) rfl rfl ?_
                          refine Run.nil ⟨by kernel_rfl, ?_⟩
                          first | (exfalso; omega) | exact toQ.mk (Gh.weak [(5, vC (.ptr 5 0)), (6, vC (.ptr 6 0)), (7, vI ((k : Int)))] [(5, some (.pbox (encN l[k]!))), (6, some (.pbox (encN { (default : Nd) with kind := l[k]!.kind })))] ⟨rfl, rfl, rfl, trivial⟩ ⟨rfl, rfl, trivial⟩) ⟨{ (default : Nd) with kind := l[k]!.kind }, (k : Int), by rw [fstN]; simp [*, -List.getElem!_eq_getElem?_getD], rfl, rfl⟩ | exact toQ.mk (Gh.weak [(5, vC (.ptr 5 0)), (6, vC (.ptr 6 0)), (7, vI ((k : Int)))] [(5, some (.pbox (encN l[k]!))), (6, some (.pbox (encN { (default : Nd) with kind := l[k]!.kind, cls := l[k]!.cls })))] ⟨rfl, rfl, rfl, trivial⟩ ⟨rfl, rfl, trivial⟩) ⟨{ (default : Nd) with kind := l[k]!.kind, cls := l[k]!.cls }, (k : Int), by rw [fstN]; simp [*, -List.getElem!_eq_getElem?_getD], rfl, rfl⟩ | exact toQ.mk (Gh.weak [(5, vC (.ptr 5 0)), (6, vC (.ptr 6 0)), (7, vI ((k : Int)))] [(5, some (.pbox (encN l[k]!))), (6, some (.pbox (encN { (default : Nd) with kind := l[k]!.kind, text := l[k]!.text })))] ⟨rfl, rfl, rfl, trivial⟩ ⟨rfl, rfl, trivial⟩) ⟨{ (default : Nd) with kind := l[k]!.kind, text := l[k]!.text }, (k : Int), by rw [fstN]; simp [*, -List.getElem!_eq_getElem?_getD], rfl, rfl⟩ | exact toQ.mk (Gh.weak [(5, vC (.ptr 5 0)), (6, vC (.ptr 6 0)), (7, vI (fstN l k))] [(5, some (.pbox (encN l[k]!))), (6, some (.pbox (encN { (default : Nd) with kind := l[k]!.kind, a := (k : Int) - 1 })))] ⟨rfl, rfl, rfl, trivial⟩ ⟨rfl, rfl, trivial⟩) ⟨{ (default : Nd) with kind := l[k]!.kind, a := (k : Int) - 1 }, fstN l k, by rw [fstN]; simp [*, -List.getElem!_eq_getElem?_getD], rfl, rfl⟩ | exact toQ.mk (Gh.weak [(5, vC (.ptr 5 0)), (6, vC (.ptr 6 0)), (7, vI (fstN l k))] [(5, some (.pbox (encN l[k]!))), (6, some (.pbox (encN { (default : Nd) with kind := l[k]!.kind, a := (k : Int) - 1, lo := l[k]!.lo, hi := l[k]!.hi })))] ⟨rfl, rfl, rfl, trivial⟩ ⟨rfl, rfl, trivial⟩) ⟨{ (default : Nd) with kind := l[k]!.kind, a := (k : Int) - 1, lo := l[k]!.lo, hi := l[k]!.hi }, fstN l k, by rw [fstN]; simp [*, -List.getElem!_eq_getElem?_getD], rfl, rfl⟩ | exact toQ.mk (Gh.weak [(5, vC (.ptr 5 0)), (6, vC (.ptr 6 0)), (7, vI (fstN l (fstN l k).toNat))] [(5, some (.pbox (encN l[k]!))), (6, some (.pbox (encN { (default : Nd) with kind := l[k]!.kind, b := (k : Int) - 1, a := fstN l k - 1 })))] ⟨rfl, rfl, rfl, trivial⟩ ⟨rfl, rfl, trivial⟩) ⟨{ (default : Nd) with kind := l[k]!.kind, b := (k : Int) - 1, a := fstN l k - 1 }, fstN l (fstN l k).toNat, by rw [fstN]; simp [*, -List.getElem!_eq_getElem?_getD], rfl, rfl⟩
                      · try simp only [decide_eq_true_eq, decide_eq_false_iff_not, beq_iff_eq, beq_eq_false_iff_ne, bne_iff_ne, bne_eq_false_iff_eq, ne_eq, Bool.not_eq_true', Bool.not_eq_false', Decidable.not_not, Int.toNat_natCast] at hc36
                        refine J.seq ?_
                        refine J.region ?_
                        refine R.assign (GOk.no rfl) rfl rfl ?_
                        refine Run.nil ⟨by kernel_rfl, ?_⟩
                        refine J.ret ?_
                        first | exact FinQ.of ⟨ret_eq rfl (svI (by have e : j = 0 := (by omega); subst e; rw [fstN])), trivial⟩ trivial | exact FinQ.of ⟨ret_eq rfl (svI (by rw [hM, if_pos (show l[k]!.same wn = true from hc2)])), trivial⟩ trivial | exact FinQ.of ⟨ret_eq rfl (svI (by rw [hM, if_neg (show ¬ (l[k]!.same wn = true) from by rw [hc2]; decide)])), trivial⟩ trivial | exact FinQ.of ⟨ret_eq rfl (svI (by omega)), trivial⟩ trivial | exact FinQ.of ⟨ret_eq rfl (svI (by rw [fstN]; simp [*, -List.getElem!_eq_getElem?_getD])), trivial⟩ trivial
                    · try simp only [decide_eq_true_eq, decide_eq_false_iff_not, beq_iff_eq, beq_eq_false_iff_ne, bne_iff_ne, bne_eq_false_iff_eq, ne_eq, Bool.not_eq_true', Bool.not_eq_false', Decidable.not_not, Int.toNat_natCast] at hc35
                      refine J.region ?_
                      refine R.eql (GOk.no rfl) rfl rfl rfl ?_
                      refine R.assign (GOk.no rfl) rfl rfl ?_
                      refine Run.nil ⟨by kernel_rfl, ?_⟩
                      refine J.cond rfl (fun hc38 => ?_) (fun hc38 => ?_)
                      · try simp only [decide_eq_true_eq, decide_eq_false_iff_not, beq_iff_eq, beq_eq_false_iff_ne, bne_iff_ne, bne_eq_false_iff_eq, ne_eq, Bool.not_eq_true', Bool.not_eq_false', Decidable.not_not, Int.toNat_natCast] at hc38
                        refine J.seq ?_
                        refine J.region ?_
                        refine R.move (GOk.no rfl) rfl rfl ?_
                        refine R.sub (GOk.no rfl) rfl rfl rfl ⟨by omega, by omega⟩ ?_
                        first | refine R.fldPtr Tryd.underlying32 rfl Tryd.sizeOf3 rfl (GOk.no rfl) rfl rfl ?_ | refine R.fldAt Tryd.underlying32 rfl Tryd.sizeOf3 rfl (GOk.no rfl) rfl rfl ?_ | refine R.fldEl Tryd.underlying32 rfl Tryd.sizeOf3 rfl (GOk.no rfl) rfl rfl ?_
                        first | refine R.stP Tryd.sizeOf3 (GOk.no rfl) rfl rfl rfl rfl rfl (Nat.le_of_ble_eq_true rfl) ?_ | refine R.stPB Tryd.sizeOf3 (GOk.no rfl) rfl rfl rfl rfl rfl ?_ | refine R.stB Tryd.sizeOf3 (GOk.no rfl) rfl rfl rfl rfl (Nat.le_of_ble_eq_true rfl) ?_
                        refine Run.nil ⟨by kernel_rfl, ?_⟩
                        refine J.seq ?_
                        refine J.region ?_
                        refine R.move (GOk.no rfl) rfl rfl ?_
                        refine R.move (GOk.no rfl) rfl rfl ?_
                        refine R.sub (GOk.no rfl) rfl rfl rfl ⟨by omega, by omega⟩ ?_
                        refine R.call [((.tmp 79), _), ((.tmp 81), _)] (ih k (by omega) (by omega)) rfl (GOk.no rfl) rfl ⟨rfl, rfl, trivial⟩ ?_
                        refine R.assign (GOk.no rfl) rfl rfl ?_
                        refine Run.nil ⟨by kernel_rfl, ?_⟩
                        refine J.seq ?_
                        refine J.seq ?_
                        refine J.region ?_
                        refine R.move (GOk.no rfl) rfl rfl ?_
                        refine R.lss (GOk.no rfl) rfl rfl rfl ?_
                        refine Run.nil ⟨by kernel_rfl, ?_⟩
                        refine J.cond rfl (fun hc39 => ?_) (fun hc39 => ?_)
                        · try simp only [decide_eq_true_eq, decide_eq_false_iff_not, beq_iff_eq, beq_eq_false_iff_ne, bne_iff_ne, bne_eq_false_iff_eq, ne_eq, Bool.not_eq_true', Bool.not_eq_false', Decidable.not_not, Int.toNat_natCast] at hc39
                          refine J.seq ?_
                          refine J.region ?_
                          refine R.assign (GOk.no rfl) rfl rfl ?_
                          refine Run.nil ⟨by kernel_rfl, ?_⟩
                          refine J.ret ?_
                          first | exact FinQ.of ⟨ret_eq rfl (svI (by have e : j = 0 := (by omega); subst e; rw [fstN])), trivial⟩ trivial | exact FinQ.of ⟨ret_eq rfl (svI (by rw [hM, if_pos (show l[k]!.same wn = true from hc2)])), trivial⟩ trivial | exact FinQ.of ⟨ret_eq rfl (svI (by rw [hM, if_neg (show ¬ (l[k]!.same wn = true) from by rw [hc2]; decide)])), trivial⟩ trivial | exact FinQ.of ⟨ret_eq rfl (svI (by omega)), trivial⟩ trivial | exact FinQ.of ⟨ret_eq rfl (svI (by rw [fstN]; simp [*, -List.getElem!_eq_getElem?_getD])), trivial⟩ trivial
                        · try simp only [decide_eq_true_eq, decide_eq_false_iff_not, beq_iff_eq, beq_eq_false_iff_ne, bne_iff_ne, bne_eq_false_iff_eq, ne_eq, Bool.not_eq_true', Bool.not_eq_false', Decidable.not_not, Int.toNat_natCast] at hc39
                          refine J.skip ?_
                          refine J.seq ?_
                          refine J.region ?_
                          refine R.move (GOk.no rfl) rfl rfl ?_
                          refine R.sub (GOk.no rfl) rfl rfl rfl ⟨by omega, by omega⟩ ?_
                          first | refine R.fldPtr Tryd.underlying32 rfl Tryd.sizeOf3 rfl (GOk.no rfl) rfl rfl ?_ | refine R.fldAt Tryd.underlying32 rfl Tryd.sizeOf3 rfl (GOk.no rfl) rfl rfl ?_ | refine R.fldEl Tryd.underlying32 rfl Tryd.sizeOf3 rfl (GOk.no rfl) rfl rfl ?_
                          first | refine R.stP Tryd.sizeOf3 (GOk.no rfl) rfl rfl rfl rfl rfl (Nat.le_of_ble_eq_true rfl) ?_ | refine R.stPB Tryd.sizeOf3 (GOk.no rfl) rfl rfl rfl rfl rfl ?_ | refine R.stB Tryd.sizeOf3 (GOk.no rfl) rfl rfl rfl rfl (Nat.le_of_ble_eq_true rfl) ?_
                          refine Run.nil ⟨by kernel_rfl, ?_⟩
                          refine J.region ?_
                          refine R.move (GOk.no rfl) rfl rfl ?_
                          refine R.move (GOk.no rfl) rfl rfl ?_
                          refine R.sub (GOk.no rfl) rfl rfl rfl ⟨by omega, by omega⟩ ?_
                          refine R.spell 90 rfl (show _ = vI (((fstN l k).toNat : Nat) - 1 : Int) from vI_eq (by omega)) ?_
                          refine R.call [((.tmp 88), _), ((.tmp 90), _)] (ih (fstN l k).toNat (by omega) (by omega)) rfl (GOk.no rfl) rfl ⟨rfl, rfl, trivial⟩ ?_
                          refine R.assign (GOk.no rfl) rfl rfl ?_
                          refine Run.nil ⟨by kernel_rfl, ?_⟩
                          first | (exfalso; omega) | exact toQ.mk (Gh.weak [(5, vC (.ptr 5 0)), (6, vC (.ptr 6 0)), (7, vI ((k : Int)))] [(5, some (.pbox (encN l[k]!))), (6, some (.pbox (encN { (default : Nd) with kind := l[k]!.kind })))] ⟨rfl, rfl, rfl, trivial⟩ ⟨rfl, rfl, trivial⟩) ⟨{ (default : Nd) with kind := l[k]!.kind }, (k : Int), by rw [fstN]; simp [*, -List.getElem!_eq_getElem?_getD], rfl, rfl⟩ | exact toQ.mk (Gh.weak [(5, vC (.ptr 5 0)), (6, vC (.ptr 6 0)), (7, vI ((k : Int)))] [(5, some (.pbox (encN l[k]!))), (6, some (.pbox (encN { (default : Nd) with kind := l[k]!.kind, cls := l[k]!.cls })))] ⟨rfl, rfl, rfl, trivial⟩ ⟨rfl, rfl, trivial⟩) ⟨{ (default : Nd) with kind := l[k]!.kind, cls := l[k]!.cls }, (k : Int), by rw [fstN]; simp [*, -List.getElem!_eq_getElem?_getD], rfl, rfl⟩ | exact toQ.mk (Gh.weak [(5, vC (.ptr 5 0)), (6, vC (.ptr 6 0)), (7, vI ((k : Int)))] [(5, some (.pbox (encN l[k]!))), (6, some (.pbox (encN { (default : Nd) with kind := l[k]!.kind, text := l[k]!.text })))] ⟨rfl, rfl, rfl, trivial⟩ ⟨rfl, rfl, trivial⟩) ⟨{ (default : Nd) with kind := l[k]!.kind, text := l[k]!.text }, (k : Int), by rw [fstN]; simp [*, -List.getElem!_eq_getElem?_getD], rfl, rfl⟩ | exact toQ.mk (Gh.weak [(5, vC (.ptr 5 0)), (6, vC (.ptr 6 0)), (7, vI (fstN l k))] [(5, some (.pbox (encN l[k]!))), (6, some (.pbox (encN { (default : Nd) with kind := l[k]!.kind, a := (k : Int) - 1 })))] ⟨rfl, rfl, rfl, trivial⟩ ⟨rfl, rfl, trivial⟩) ⟨{ (default : Nd) with kind := l[k]!.kind, a := (k : Int) - 1 }, fstN l k, by rw [fstN]; simp [*, -List.getElem!_eq_getElem?_getD], rfl, rfl⟩ | exact toQ.mk (Gh.weak [(5, vC (.ptr 5 0)), (6, vC (.ptr 6 0)), (7, vI (fstN l k))] [(5, some (.pbox (encN l[k]!))), (6, some (.pbox (encN { (default : Nd) with kind := l[k]!.kind, a := (k : Int) - 1, lo := l[k]!.lo, hi := l[k]!.hi })))] ⟨rfl, rfl, rfl, trivial⟩ ⟨rfl, rfl, trivial⟩) ⟨{ (default : Nd) with kind := l[k]!.kind, a := (k : Int) - 1, lo := l[k]!.lo, hi := l[k]!.hi }, fstN l k, by rw [fstN]; simp [*, -List.getElem!_eq_getElem?_getD], rfl, rfl⟩ | exact toQ.mk (Gh.weak [(5, vC (.ptr 5 0)), (6, vC (.ptr 6 0)), (7, vI (fstN l (fstN l k).toNat))] [(5, some (.pbox (encN l[k]!))), (6, some (.pbox (encN { (default : Nd) with kind := l[k]!.kind, b := (k : Int) - 1, a := fstN l k - 1 })))] ⟨rfl, rfl, rfl, trivial⟩ ⟨rfl, rfl, trivial⟩) ⟨{ (default : Nd) with kind := l[k]!.kind, b := (k : Int) - 1, a := fstN l k - 1 }, fstN l (fstN l k).toNat, by rw [fstN]; simp [*, -List.getElem!_eq_getElem?_getD], rfl, rfl⟩
                      · try simp only [decide_eq_true_eq, decide_eq_false_iff_not, beq_iff_eq, beq_eq_false_iff_ne, bne_iff_ne, bne_eq_false_iff_eq, ne_eq, Bool.not_eq_true', Bool.not_eq_false', Decidable.not_not, Int.toNat_natCast] at hc38
                        refine J.seq ?_
                        refine J.region ?_
                        refine R.assign (GOk.no rfl) rfl rfl ?_
                        refine Run.nil ⟨by kernel_rfl, ?_⟩
                        refine J.ret ?_
                        first | exact FinQ.of ⟨ret_eq rfl (svI (by have e : j = 0 := (by omega); subst e; rw [fstN])), trivial⟩ trivial | exact FinQ.of ⟨ret_eq rfl (svI (by rw [hM, if_pos (show l[k]!.same wn = true from hc2)])), trivial⟩ trivial | exact FinQ.of ⟨ret_eq rfl (svI (by rw [hM, if_neg (show ¬ (l[k]!.same wn = true) from by rw [hc2]; decide)])), trivial⟩ trivial | exact FinQ.of ⟨ret_eq rfl (svI (by omega)), trivial⟩ trivial | exact FinQ.of ⟨ret_eq rfl (svI (by rw [fstN]; simp [*, -List.getElem!_eq_getElem?_getD])), trivial⟩ trivial
                · try simp only [decide_eq_true_eq, decide_eq_false_iff_not, beq_iff_eq, beq_eq_false_iff_ne, bne_iff_ne, bne_eq_false_iff_eq, ne_eq, Bool.not_eq_true', Bool.not_eq_false', Decidable.not_not, Int.toNat_natCast] at hc29
                  refine J.region ?_
                  refine R.eql (GOk.no rfl) rfl rfl rfl ?_
                  refine R.assign (GOk.no rfl) rfl rfl ?_
                  refine Run.nil ⟨by kernel_rfl, ?_⟩
                  refine J.cond rfl (fun hc40 => ?_) (fun hc40 => ?_)
                  · try simp only [decide_eq_true_eq, decide_eq_false_iff_not, beq_iff_eq, beq_eq_false_iff_ne, bne_iff_ne, bne_eq_false_iff_eq, ne_eq, Bool.not_eq_true', Bool.not_eq_false', Decidable.not_not, Int.toNat_natCast] at hc40
                    refine J.seq ?_
                    refine J.region ?_
                    refine R.move (GOk.no rfl) rfl rfl ?_
                    refine R.sub (GOk.no rfl) rfl rfl rfl ⟨by omega, by omega⟩ ?_
                    first | refine R.fldPtr Tryd.underlying32 rfl Tryd.sizeOf3 rfl (GOk.no rfl) rfl rfl ?_ | refine R.fldAt Tryd.underlying32 rfl Tryd.sizeOf3 rfl (GOk.no rfl) rfl rfl ?_ | refine R.fldEl Tryd.underlying32 rfl Tryd.sizeOf3 rfl (GOk.no rfl) rfl rfl ?_
                    first | refine R.stP Tryd.sizeOf3 (GOk.no rfl) rfl rfl rfl rfl rfl (Nat.le_of_ble_eq_true rfl) ?_ | refine R.stPB Tryd.sizeOf3 (GOk.no rfl) rfl rfl rfl rfl rfl ?_ | refine R.stB Tryd.sizeOf3 (GOk.no rfl) rfl rfl rfl rfl (Nat.le_of_ble_eq_true rfl) ?_
                    refine Run.nil ⟨by kernel_rfl, ?_⟩
                    refine J.seq ?_
                    refine J.seq ?_
                    refine J.region ?_
                    first | refine R.fldPtr Tryd.underlying32 rfl Tryd.sizeOf3 rfl (GOk.no rfl) rfl rfl ?_ | refine R.fldAt Tryd.underlying32 rfl Tryd.sizeOf3 rfl (GOk.no rfl) rfl rfl ?_ | refine R.fldEl Tryd.underlying32 rfl Tryd.sizeOf3 rfl (GOk.no rfl) rfl rfl ?_
                    first | refine R.ldP1 Tryd.isAgg3 (GOk.no rfl) rfl rfl rfl rfl ?_ | refine R.ldAt1 Tryd.isAgg3 (GOk.no rfl) rfl rfl rfl ?_ | refine R.ldB1 Tryd.isAgg3 (GOk.no rfl) rfl rfl rfl rfl ?_ | refine R.ldElM1 Tryd.isAgg3 (GOk.no rfl) rfl rfl rfl (by omega) rfl ?_
                    refine R.eql (GOk.no rfl) rfl rfl rfl ?_
                    refine Run.nil ⟨by kernel_rfl, ?_⟩
                    refine J.cond rfl (fun hc41 => ?_) (fun hc41 => ?_)
                    · try simp only [decide_eq_true_eq, decide_eq_false_iff_not, beq_iff_eq, beq_eq_false_iff_ne, bne_iff_ne, bne_eq_false_iff_eq, ne_eq, Bool.not_eq_true', Bool.not_eq_false', Decidable.not_not, Int.toNat_natCast] at hc41
                      refine J.seq ?_
                      refine J.region ?_
                      first | refine R.fldPtr Tryd.underlying32 rfl Tryd.sizeOf3 rfl (GOk.no rfl) rfl rfl ?_ | refine R.fldAt Tryd.underlying32 rfl Tryd.sizeOf3 rfl (GOk.no rfl) rfl rfl ?_ | refine R.fldEl Tryd.underlying32 rfl Tryd.sizeOf3 rfl (GOk.no rfl) rfl rfl ?_
                      first | refine R.ldP1 Tryd.isAgg3 (GOk.no rfl) rfl rfl rfl rfl ?_ | refine R.ldAt1 Tryd.isAgg3 (GOk.no rfl) rfl rfl rfl ?_ | refine R.ldB1 Tryd.isAgg3 (GOk.no rfl) rfl rfl rfl rfl ?_ | refine R.ldElM1 Tryd.isAgg3 (GOk.no rfl) rfl rfl rfl (by omega) rfl ?_
                      first | refine R.fldPtr Tryd.underlying32 rfl Tryd.sizeOf3 rfl (GOk.no rfl) rfl rfl ?_ | refine R.fldAt Tryd.underlying32 rfl Tryd.sizeOf3 rfl (GOk.no rfl) rfl rfl ?_ | refine R.fldEl Tryd.underlying32 rfl Tryd.sizeOf3 rfl (GOk.no rfl) rfl rfl ?_
                      first | refine R.stP Tryd.sizeOf3 (GOk.no rfl) rfl rfl rfl rfl rfl (Nat.le_of_ble_eq_true rfl) ?_ | refine R.stPB Tryd.sizeOf3 (GOk.no rfl) rfl rfl rfl rfl rfl ?_ | refine R.stB Tryd.sizeOf3 (GOk.no rfl) rfl rfl rfl rfl (Nat.le_of_ble_eq_true rfl) ?_
                      refine Run.nil ⟨by kernel_rfl, ?_⟩
                      refine J.seq ?_
                      refine J.region ?_
                      first | refine R.fldPtr Tryd.underlying32 rfl Tryd.sizeOf3 rfl (GOk.no rfl) rfl rfl ?_ | refine R.fldAt Tryd.underlying32 rfl Tryd.sizeOf3 rfl (GOk.no rfl) rfl rfl ?_ | refine R.fldEl Tryd.underlying32 rfl Tryd.sizeOf3 rfl (GOk.no rfl) rfl rfl ?_
                      first | refine R.ldP1 Tryd.isAgg3 (GOk.no rfl) rfl rfl rfl rfl ?_ | refine R.ldAt1 Tryd.isAgg3 (GOk.no rfl) rfl rfl rfl ?_ | refine R.ldB1 Tryd.isAgg3 (GOk.no rfl) rfl rfl rfl rfl ?_ | refine R.ldElM1 Tryd.isAgg3 (GOk.no rfl) rfl rfl rfl (by omega) rfl ?_
                      first | refine R.fldPtr Tryd.underlying32 rfl Tryd.sizeOf3 rfl (GOk.no rfl) rfl rfl ?_ | refine R.fldAt Tryd.underlying32 rfl Tryd.sizeOf3 rfl (GOk.no rfl) rfl rfl ?_ | refine R.fldEl Tryd.underlying32 rfl Tryd.sizeOf3 rfl (GOk.no rfl) rfl rfl ?_
                      first | refine R.stP Tryd.sizeOf3 (GOk.no rfl) rfl rfl rfl rfl rfl (Nat.le_of_ble_eq_true rfl) ?_ | refine R.stPB Tryd.sizeOf3 (GOk.no rfl) rfl rfl rfl rfl rfl ?_ | refine R.stB Tryd.sizeOf3 (GOk.no rfl) rfl rfl rfl rfl (Nat.le_of_ble_eq_true rfl) ?_
                      refine Run.nil ⟨by kernel_rfl, ?_⟩
                      refine J.seq ?_
                      refine J.region ?_
                      first | refine R.fldPtr Tryd.underlying32 rfl Tryd.sizeOf3 rfl (GOk.no rfl) rfl rfl ?_ | refine R.fldAt Tryd.underlying32 rfl Tryd.sizeOf3 rfl (GOk.no rfl) rfl rfl ?_ | refine R.fldEl Tryd.underlying32 rfl Tryd.sizeOf3 rfl (GOk.no rfl) rfl rfl ?_
                      first | refine R.ldP1 Tryd.isAgg3 (GOk.no rfl) rfl rfl rfl rfl ?_ | refine R.ldAt1 Tryd.isAgg3 (GOk.no rfl) rfl rfl rfl ?_ | refine R.ldB1 Tryd.isAgg3 (GOk.no rfl) rfl rfl rfl rfl ?_ | refine R.ldElM1 Tryd.isAgg3 (GOk.no rfl) rfl rfl rfl (by omega) rfl ?_
                      refine R.lss (GOk.no rfl) rfl rfl rfl ?_
                      refine R.move (GOk.no rfl) rfl rfl ?_
                      refine R.case 57 rfl (fun hg42 => ?_) (fun hg42 => ?_)
                      · try simp only [decide_eq_true_eq, decide_eq_false_iff_not, beq_iff_eq, beq_eq_false_iff_ne, bne_iff_ne, bne_eq_false_iff_eq, ne_eq, Bool.not_eq_true', Bool.not_eq_false', Decidable.not_not, Int.toNat_natCast] at hg42
                        refine R.pass (GOk.of rfl rfl rfl _ rfl) rfl ?_
                        refine R.pass (GOk.of rfl rfl rfl _ rfl) rfl ?_
                        refine R.pass (GOk.of rfl rfl rfl _ rfl) rfl ?_
                        refine R.pass (GOk.of rfl rfl rfl _ rfl) rfl ?_
                        refine R.pass (GOk.of rfl rfl rfl _ rfl) rfl ?_
                        first | refine R.pickT (GOk.no rfl) rfl rfl rfl ?_ | refine R.pickF (GOk.no rfl) rfl rfl rfl ?_
                        refine R.move (GOk.no rfl) rfl rfl ?_
                        refine R.pass (GOk.of rfl rfl rfl _ rfl) rfl ?_
                        refine R.pass (GOk.of rfl rfl rfl _ rfl) rfl ?_
                        refine R.pass (GOk.of rfl rfl rfl _ rfl) rfl ?_
                        first | refine R.pickT (GOk.no rfl) rfl rfl rfl ?_ | refine R.pickF (GOk.no rfl) rfl rfl rfl ?_
                        refine Run.nil ⟨by kernel_rfl, ?_⟩
                        refine J.condT rfl ?_
                        refine J.seq ?_
                        refine J.region ?_
                        refine R.assign (GOk.no rfl) rfl rfl ?_
                        refine Run.nil ⟨by kernel_rfl, ?_⟩
                        refine J.ret ?_
                        first | exact FinQ.of ⟨ret_eq rfl (svI (by have e : j = 0 := (by omega); subst e; rw [fstN])), trivial⟩ trivial | exact FinQ.of ⟨ret_eq rfl (svI (by rw [hM, if_pos (show l[k]!.same wn = true from hc2)])), trivial⟩ trivial | exact FinQ.of ⟨ret_eq rfl (svI (by rw [hM, if_neg (show ¬ (l[k]!.same wn = true) from by rw [hc2]; decide)])), trivial⟩ trivial | exact FinQ.of ⟨ret_eq rfl (svI (by omega)), trivial⟩ trivial | exact FinQ.of ⟨ret_eq rfl (svI (by rw [fstN]; simp [*, -List.getElem!_eq_getElem?_getD])), trivial⟩ trivial
                      · try simp only [decide_eq_true_eq, decide_eq_false_iff_not, beq_iff_eq, beq_eq_false_iff_ne, bne_iff_ne, bne_eq_false_iff_eq, ne_eq, Bool.not_eq_true', Bool.not_eq_false', Decidable.not_not, Int.toNat_natCast] at hg42
                        first | refine R.fldPtr Tryd.underlying32 rfl Tryd.sizeOf3 rfl (GOk.of rfl rfl rfl _ rfl) rfl rfl ?_ | refine R.fldAt Tryd.underlying32 rfl Tryd.sizeOf3 rfl (GOk.of rfl rfl rfl _ rfl) rfl rfl ?_ | refine R.fldEl Tryd.underlying32 rfl Tryd.sizeOf3 rfl (GOk.of rfl rfl rfl _ rfl) rfl rfl ?_
                        first | refine R.ldP1 Tryd.isAgg3 (GOk.of rfl rfl rfl _ rfl) rfl rfl rfl rfl ?_ | refine R.ldAt1 Tryd.isAgg3 (GOk.of rfl rfl rfl _ rfl) rfl rfl rfl ?_ | refine R.ldB1 Tryd.isAgg3 (GOk.of rfl rfl rfl _ rfl) rfl rfl rfl rfl ?_ | refine R.ldElM1 Tryd.isAgg3 (GOk.of rfl rfl rfl _ rfl) rfl rfl rfl (by omega) rfl ?_
                        first | refine R.fldPtr Tryd.underlying32 rfl Tryd.sizeOf3 rfl (GOk.of rfl rfl rfl _ rfl) rfl rfl ?_ | refine R.fldAt Tryd.underlying32 rfl Tryd.sizeOf3 rfl (GOk.of rfl rfl rfl _ rfl) rfl rfl ?_ | refine R.fldEl Tryd.underlying32 rfl Tryd.sizeOf3 rfl (GOk.of rfl rfl rfl _ rfl) rfl rfl ?_
                        first | refine R.ldP1 Tryd.isAgg3 (GOk.of rfl rfl rfl _ rfl) rfl rfl rfl rfl ?_ | refine R.ldAt1 Tryd.isAgg3 (GOk.of rfl rfl rfl _ rfl) rfl rfl rfl ?_ | refine R.ldB1 Tryd.isAgg3 (GOk.of rfl rfl rfl _ rfl) rfl rfl rfl rfl ?_ | refine R.ldElM1 Tryd.isAgg3 (GOk.of rfl rfl rfl _ rfl) rfl rfl rfl (by omega) rfl ?_
                        refine R.gtr (GOk.of rfl rfl rfl _ rfl) rfl rfl rfl ?_
                        first | refine R.pickT (GOk.no rfl) rfl rfl rfl ?_ | refine R.pickF (GOk.no rfl) rfl rfl rfl ?_
                        refine R.move (GOk.no rfl) rfl rfl ?_
                        refine R.case 64 rfl (fun hg43 => ?_) (fun hg43 => ?_)
                        · try simp only [decide_eq_true_eq, decide_eq_false_iff_not, beq_iff_eq, beq_eq_false_iff_ne, bne_iff_ne, bne_eq_false_iff_eq, ne_eq, Bool.not_eq_true', Bool.not_eq_false', Decidable.not_not, Int.toNat_natCast] at hg43
                          refine R.pass (GOk.of rfl rfl rfl _ rfl) rfl ?_
                          refine R.pass (GOk.of rfl rfl rfl _ rfl) rfl ?_
                          refine R.pass (GOk.of rfl rfl rfl _ rfl) rfl ?_
                          first | refine R.pickT (GOk.no rfl) rfl rfl rfl ?_ | refine R.pickF (GOk.no rfl) rfl rfl rfl ?_
                          refine Run.nil ⟨by kernel_rfl, ?_⟩
                          refine J.condT rfl ?_
                          refine J.seq ?_
                          refine J.region ?_
                          refine R.assign (GOk.no rfl) rfl rfl ?_
                          refine Run.nil ⟨by kernel_rfl, ?_⟩
                          refine J.ret ?_
                          first | exact FinQ.of ⟨ret_eq rfl (svI (by have e : j = 0 := (by omega); subst e; rw [fstN])), trivial⟩ trivial | exact FinQ.of ⟨ret_eq rfl (svI (by rw [hM, if_pos (show l[k]!.same wn = true from hc2)])), trivial⟩ trivial | exact FinQ.of ⟨ret_eq rfl (svI (by rw [hM, if_neg (show ¬ (l[k]!.same wn = true) from by rw [hc2]; decide)])), trivial⟩ trivial | exact FinQ.of ⟨ret_eq rfl (svI (by omega)), trivial⟩ trivial | exact FinQ.of ⟨ret_eq rfl (svI (by rw [fstN]; simp [*, -List.getElem!_eq_getElem?_getD])), trivial⟩ trivial
                        · try simp only [decide_eq_true_eq, decide_eq_false_iff_not, beq_iff_eq, beq_eq_false_iff_ne, bne_iff_ne, bne_eq_false_iff_eq, ne_eq, Bool.not_eq_true', Bool.not_eq_false', Decidable.not_not, Int.toNat_natCast] at hg43
                          first | refine R.fldPtr Tryd.underlying32 rfl Tryd.sizeOf3 rfl (GOk.of rfl rfl rfl _ rfl) rfl rfl ?_ | refine R.fldAt Tryd.underlying32 rfl Tryd.sizeOf3 rfl (GOk.of rfl rfl rfl _ rfl) rfl rfl ?_ | refine R.fldEl Tryd.underlying32 rfl Tryd.sizeOf3 rfl (GOk.of rfl rfl rfl _ rfl) rfl rfl ?_
                          first | refine R.ldP1 Tryd.isAgg3 (GOk.of rfl rfl rfl _ rfl) rfl rfl rfl rfl ?_ | refine R.ldAt1 Tryd.isAgg3 (GOk.of rfl rfl rfl _ rfl) rfl rfl rfl ?_ | refine R.ldB1 Tryd.isAgg3 (GOk.of rfl rfl rfl _ rfl) rfl rfl rfl rfl ?_ | refine R.ldElM1 Tryd.isAgg3 (GOk.of rfl rfl rfl _ rfl) rfl rfl rfl (by omega) rfl ?_
                          refine R.gtr (GOk.of rfl rfl rfl _ rfl) rfl rfl rfl ?_
                          first | refine R.pickT (GOk.no rfl) rfl rfl rfl ?_ | refine R.pickF (GOk.no rfl) rfl rfl rfl ?_
                          refine Run.nil ⟨by kernel_rfl, ?_⟩
                          refine J.cond rfl (fun hc44 => ?_) (fun hc44 => ?_)
                          · try simp only [decide_eq_true_eq, decide_eq_false_iff_not, beq_iff_eq, beq_eq_false_iff_ne, bne_iff_ne, bne_eq_false_iff_eq, ne_eq, Bool.not_eq_true', Bool.not_eq_false', Decidable.not_not, Int.toNat_natCast] at hc44
                            refine J.seq ?_
                            refine J.region ?_
                            refine R.assign (GOk.no rfl) rfl rfl ?_
                            refine Run.nil ⟨by kernel_rfl, ?_⟩
                            refine J.ret ?_
                            first | exact FinQ.of ⟨ret_eq rfl (svI (by have e : j = 0 := (by omega); subst e; rw [fstN])), trivial⟩ trivial | exact FinQ.of ⟨ret_eq rfl (svI (by rw [hM, if_pos (show l[k]!.same wn = true from hc2)])), trivial⟩ trivial | exact FinQ.of ⟨ret_eq rfl (svI (by rw [hM, if_neg (show ¬ (l[k]!.same wn = true) from by rw [hc2]; decide)])), trivial⟩ trivial | exact FinQ.of ⟨ret_eq rfl (svI (by omega)), trivial⟩ trivial | exact FinQ.of ⟨ret_eq rfl (svI (by rw [fstN]; simp [*, -List.getElem!_eq_getElem?_getD])), trivial⟩ trivial
                          · try simp only [decide_eq_true_eq, decide_eq_false_iff_not, beq_iff_eq, beq_eq_false_iff_ne, bne_iff_ne, bne_eq_false_iff_eq, ne_eq, Bool.not_eq_true', Bool.not_eq_false', Decidable.not_not, Int.toNat_natCast] at hc44
                            refine J.skip ?_
                            refine J.region ?_
                            refine R.move (GOk.no rfl) rfl rfl ?_
                            refine R.move (GOk.no rfl) rfl rfl ?_
                            refine R.sub (GOk.no rfl) rfl rfl rfl ⟨by omega, by omega⟩ ?_
                            refine R.call [((.tmp 69), _), ((.tmp 71), _)] (ih k (by omega) (by omega)) rfl (GOk.no rfl) rfl ⟨rfl, rfl, trivial⟩ ?_
                            refine R.assign (GOk.no rfl) rfl rfl ?_
                            refine Run.nil ⟨by kernel_rfl, ?_⟩
                            first | (exfalso; omega) | exact toQ.mk (Gh.weak [(5, vC (.ptr 5 0)), (6, vC (.ptr 6 0)), (7, vI ((k : Int)))] [(5, some (.pbox (encN l[k]!))), (6, some (.pbox (encN { (default : Nd) with kind := l[k]!.kind })))] ⟨rfl, rfl, rfl, trivial⟩ ⟨rfl, rfl, trivial⟩) ⟨{ (default : Nd) with kind := l[k]!.kind }, (k : Int), by rw [fstN]; simp [*, -List.getElem!_eq_getElem?_getD], rfl, rfl⟩ | exact toQ.mk (Gh.weak [(5, vC (.ptr 5 0)), (6, vC (.ptr 6 0)), (7, vI ((k : Int)))] [(5, some (.pbox (encN l[k]!))), (6, some (.pbox (encN { (default : Nd) with kind := l[k]!.kind, cls := l[k]!.cls })))] ⟨rfl, rfl, rfl, trivial⟩ ⟨rfl, rfl, trivial⟩) ⟨{ (default : Nd) with kind := l[k]!.kind, cls := l[k]!.cls }, (k : Int), by rw [fstN]; simp [*, -List.getElem!_eq_getElem?_getD], rfl, rfl⟩ | exact toQ.mk (Gh.weak [(5, vC (.ptr 5 0)), (6, vC (.ptr 6 0)), (7, vI ((k : Int)))] [(5, some (.pbox (encN l[k]!))), (6, some (.pbox (encN { (default : Nd) with kind := l[k]!.kind, text := l[k]!.text })))] ⟨rfl, rfl, rfl, trivial⟩ ⟨rfl, rfl, trivial⟩) ⟨{ (default : Nd) with kind := l[k]!.kind, text := l[k]!.text }, (k : Int), by rw [fstN]; simp [*, -List.getElem!_eq_getElem?_getD], rfl, rfl⟩ | exact toQ.mk (Gh.weak [(5, vC (.ptr 5 0)), (6, vC (.ptr 6 0)), (7, vI (fstN l k))] [(5, some (.pbox (encN l[k]!))), (6, some (.pbox (encN { (default : Nd) with kind := l[k]!.kind, a := (k : Int) - 1 })))] ⟨rfl, rfl, rfl, trivial⟩ ⟨rfl, rfl, trivial⟩) ⟨{ (default : Nd) with kind := l[k]!.kind, a := (k : Int) - 1 }, fstN l k, by rw [fstN]; simp [*, -List.getElem!_eq_getElem?_getD], rfl, rfl⟩ | exact toQ.mk (Gh.weak [(5, vC (.ptr 5 0)), (6, vC (.ptr 6 0)), (7, vI (fstN l k))] [(5, some (.pbox (encN l[k]!))), (6, some (.pbox (encN { (default : Nd) with kind := l[k]!.kind, a := (k : Int) - 1, lo := l[k]!.lo, hi := l[k]!.hi })))] ⟨rfl, rfl, rfl, trivial⟩ ⟨rfl, rfl, trivial⟩) ⟨{ (default : Nd) with kind := l[k]!.kind, a := (k : Int) - 1, lo := l[k]!.lo, hi := l[k]!.hi }, fstN l k, by rw [fstN]; simp [*, -List.getElem!_eq_getElem?_getD], rfl, rfl⟩ | exact toQ.mk (Gh.weak [(5, vC (.ptr 5 0)), (6, vC (.ptr 6 0)), (7, vI (fstN l (fstN l k).toNat))] [(5, some (.pbox (encN l[k]!))), (6, some (.pbox (encN { (default : Nd) with kind := l[k]!.kind, b := (k : Int) - 1, a := fstN l k - 1 })))] ⟨rfl, rfl, rfl, trivial⟩ ⟨rfl, rfl, trivial⟩) ⟨{ (default : Nd) with kind := l[k]!.kind, b := (k : Int) - 1, a := fstN l k - 1 }, fstN l (fstN l k).toNat, by rw [fstN]; simp [*, -List.getElem!_eq_getElem?_getD], rfl, rfl⟩
                    · try simp only [decide_eq_true_eq, decide_eq_false_iff_not, beq_iff_eq, beq_eq_false_iff_ne, bne_iff_ne, bne_eq_false_iff_eq, ne_eq, Bool.not_eq_true', Bool.not_eq_false', Decidable.not_not, Int.toNat_natCast] at hc41
                      refine J.skip ?_
                      refine J.region ?_
                      refine R.move (GOk.no rfl) rfl rfl ?_
                      refine R.move (GOk.no rfl) rfl rfl ?_
                      refine R.sub (GOk.no rfl) rfl rfl rfl ⟨by omega, by omega⟩ ?_
                      refine R.call [((.tmp 69), _), ((.tmp 71), _)] (ih k (by omega) (by omega)) rfl (GOk.no rfl) rfl ⟨rfl, rfl, trivial⟩ ?_
                      refine R.assign (GOk.no rfl) rfl rfl ?_
                      refine Run.nil ⟨by kernel_rfl, ?_⟩
                      first | (exfalso; omega) | exact toQ.mk (Gh.weak [(5, vC (.ptr 5 0)), (6, vC (.ptr 6 0)), (7, vI ((k : Int)))] [(5, some (.pbox (encN l[k]!))), (6, some (.pbox (encN { (default : Nd) with kind := l[k]!.kind })))] ⟨rfl, rfl, rfl, trivial⟩ ⟨rfl, rfl, trivial⟩) ⟨{ (default : Nd) with kind := l[k]!.kind }, (k : Int), by rw [fstN]; simp [*, -List.getElem!_eq_getElem?_getD], rfl, rfl⟩ | exact toQ.mk (Gh.weak [(5, vC (.ptr 5 0)), (6, vC (.ptr 6 0)), (7, vI ((k : Int)))] [(5, some (.pbox (encN l[k]!))), (6, some (.pbox (encN { (default : Nd) with kind := l[k]!.kind, cls := l[k]!.cls })))] ⟨rfl, rfl, rfl, trivial⟩ ⟨rfl, rfl, trivial⟩) ⟨{ (default : Nd) with kind := l[k]!.kind, cls := l[k]!.cls }, (k : Int), by rw [fstN]; simp [*, -List.getElem!_eq_getElem?_getD], rfl, rfl⟩ | exact toQ.mk (Gh.weak [(5, vC (.ptr 5 0)), (6, vC (.ptr 6 0)), (7, vI ((k : Int)))] [(5, some (.pbox (encN l[k]!))), (6, some (.pbox (encN { (default : Nd) with kind := l[k]!.kind, text := l[k]!.text })))] ⟨rfl, rfl, rfl, trivial⟩ ⟨rfl, rfl, trivial⟩) ⟨{ (default : Nd) with kind := l[k]!.kind, text := l[k]!.text }, (k : Int), by rw [fstN]; simp [*, -List.getElem!_eq_getElem?_getD], rfl, rfl⟩ | exact toQ.mk (Gh.weak [(5, vC (.ptr 5 0)), (6, vC (.ptr 6 0)), (7, vI (fstN l k))] [(5, some (.pbox (encN l[k]!))), (6, some (.pbox (encN { (default : Nd) with kind := l[k]!.kind, a := (k : Int) - 1 })))] ⟨rfl, rfl, rfl, trivial⟩ ⟨rfl, rfl, trivial⟩) ⟨{ (default : Nd) with kind := l[k]!.kind, a := (k : Int) - 1 }, fstN l k, by rw [fstN]; simp [*, -List.getElem!_eq_getElem?_getD], rfl, rfl⟩ | exact toQ.mk (Gh.weak [(5, vC (.ptr 5 0)), (6, vC (.ptr 6 0)), (7, vI (fstN l k))] [(5, some (.pbox (encN l[k]!))), (6, some (.pbox (encN { (default : Nd) with kind := l[k]!.kind, a := (k : Int) - 1, lo := l[k]!.lo, hi := l[k]!.hi })))] ⟨rfl, rfl, rfl, trivial⟩ ⟨rfl, rfl, trivial⟩) ⟨{ (default : Nd) with kind := l[k]!.kind, a := (k : Int) - 1, lo := l[k]!.lo, hi := l[k]!.hi }, fstN l k, by rw [fstN]; simp [*, -List.getElem!_eq_getElem?_getD], rfl, rfl⟩ | exact toQ.mk (Gh.weak [(5, vC (.ptr 5 0)), (6, vC (.ptr 6 0)), (7, vI (fstN l (fstN l k).toNat))] [(5, some (.pbox (encN l[k]!))), (6, some (.pbox (encN { (default : Nd) with kind := l[k]!.kind, b := (k : Int) - 1, a := fstN l k - 1 })))] ⟨rfl, rfl, rfl, trivial⟩ ⟨rfl, rfl, trivial⟩) ⟨{ (default : Nd) with kind := l[k]!.kind, b := (k : Int) - 1, a := fstN l k - 1 }, fstN l (fstN l k).toNat, by rw [fstN]; simp [*, -List.getElem!_eq_getElem?_getD], rfl, rfl⟩
                  · try simp only [decide_eq_true_eq, decide_eq_false_iff_not, beq_iff_eq, beq_eq_false_iff_ne, bne_iff_ne, bne_eq_false_iff_eq, ne_eq, Bool.not_eq_true', Bool.not_eq_false', Decidable.not_not, Int.toNat_natCast] at hc40
                    refine J.seq ?_
                    refine J.seq ?_
                    refine J.region ?_
                    refine R.eql (GOk.no rfl) rfl rfl rfl ?_
                    refine R.assign (GOk.no rfl) rfl rfl ?_
                    refine Run.nil ⟨by kernel_rfl, ?_⟩
                    refine J.cond rfl (fun hc45 => ?_) (fun hc45 => ?_)
                    · try simp only [decide_eq_true_eq, decide_eq_false_iff_not, beq_iff_eq, beq_eq_false_iff_ne, bne_iff_ne, bne_eq_false_iff_eq, ne_eq, Bool.not_eq_true', Bool.not_eq_false', Decidable.not_not, Int.toNat_natCast] at hc45
                      refine J.skip ?_
                      refine J.cond rfl (fun hc46 => ?_) (fun hc46 => ?_)
                      · try simp only [decide_eq_true_eq, decide_eq_false_iff_not, beq_iff_eq, beq_eq_false_iff_ne, bne_iff_ne, bne_eq_false_iff_eq, ne_eq, Bool.not_eq_true', Bool.not_eq_false', Decidable.not_not, Int.toNat_natCast] at hc46
                        refine J.seq ?_
                        refine J.region ?_
                        refine R.move (GOk.no rfl) rfl rfl ?_
                        refine R.sub (GOk.no rfl) rfl rfl rfl ⟨by omega, by omega⟩ ?_
                        first | refine R.fldPtr Tryd.underlying32 rfl Tryd.sizeOf3 rfl (GOk.no rfl) rfl rfl ?_ | refine R.fldAt Tryd.underlying32 rfl Tryd.sizeOf3 rfl (GOk.no rfl) rfl rfl ?_ | refine R.fldEl Tryd.underlying32 rfl Tryd.sizeOf3 rfl (GOk.no rfl) rfl rfl ?_
                        first | refine R.stP Tryd.sizeOf3 (GOk.no rfl) rfl rfl rfl rfl rfl (Nat.le_of_ble_eq_true rfl) ?_ | refine R.stPB Tryd.sizeOf3 (GOk.no rfl) rfl rfl rfl rfl rfl ?_ | refine R.stB Tryd.sizeOf3 (GOk.no rfl) rfl rfl rfl rfl (Nat.le_of_ble_eq_true rfl) ?_
                        refine Run.nil ⟨by kernel_rfl, ?_⟩
                        refine J.seq ?_
                        refine J.region ?_
                        refine R.move (GOk.no rfl) rfl rfl ?_
                        refine R.move (GOk.no rfl) rfl rfl ?_
                        refine R.sub (GOk.no rfl) rfl rfl rfl ⟨by omega, by omega⟩ ?_
                        refine R.call [((.tmp 79), _), ((.tmp 81), _)] (ih k (by omega) (by omega)) rfl (GOk.no rfl) rfl ⟨rfl, rfl, trivial⟩ ?_
                        refine R.assign (GOk.no rfl) rfl rfl ?_
                        refine Run.nil ⟨by kernel_rfl, ?_⟩
                        refine J.seq ?_
                        refine J.seq ?_
                        refine J.region ?_
                        refine R.move (GOk.no rfl) rfl rfl ?_
                        refine R.lss (GOk.no rfl) rfl rfl rfl ?_
                        refine Run.nil ⟨by kernel_rfl, ?_⟩
                        refine J.cond rfl (fun hc47 => ?_) (fun hc47 => ?_)
                        · try simp only [decide_eq_true_eq, decide_eq_false_iff_not, beq_iff_eq, beq_eq_false_iff_ne, bne_iff_ne, bne_eq_false_iff_eq, ne_eq, Bool.not_eq_true', Bool.not_eq_false', Decidable.not_not, Int.toNat_natCast] at hc47
                          refine J.seq ?_
                          refine J.region ?_
                          refine R.assign (GOk.no rfl) rfl rfl ?_
                          refine Run.nil ⟨by kernel_rfl, ?_⟩
                          refine J.ret ?_
                          first | exact FinQ.of ⟨ret_eq rfl (svI (by have e : j = 0 := (by omega); subst e; rw [fstN])), trivial⟩ trivial | exact FinQ.of ⟨ret_eq rfl (svI (by rw [hM, if_pos (show l[k]!.same wn = true from hc2)])), trivial⟩ trivial | exact FinQ.of ⟨ret_eq rfl (svI (by rw [hM, if_neg (show ¬ (l[k]!.same wn = true) from by rw [hc2]; decide)])), trivial⟩ trivial | exact FinQ.of ⟨ret_eq rfl (svI (by omega)), trivial⟩ trivial | exact FinQ.of ⟨ret_eq rfl (svI (by rw [fstN]; simp [*, -List.getElem!_eq_getElem?_getD])), trivial⟩ trivial
                        · try simp only [decide_eq_true_eq, decide_eq_false_iff_not, beq_iff_eq, beq_eq_false_iff_ne, bne_iff_ne, bne_eq_false_iff_eq, ne_eq, Bool.not_eq_true', Bool.not_eq_false', Decidable.not_not, Int.toNat_natCast] at hc47
                          refine J.skip ?_
                          refine J.seq ?_
                          refine J.region ?_
                          refine R.move (GOk.no rfl) rfl rfl ?_
                          refine R.sub (GOk.no rfl) rfl rfl rfl ⟨by omega, by omega⟩ ?_
                          first | refine R.fldPtr Tryd.underlying32 rfl Tryd.sizeOf3 rfl (GOk.no rfl) rfl rfl ?_ | refine R.fldAt Tryd.underlying32 rfl Tryd.sizeOf3 rfl (GOk.no rfl) rfl rfl ?_ | refine R.fldEl Tryd.underlying32 rfl Tryd.sizeOf3 rfl (GOk.no rfl) rfl rfl ?_
                          first | refine R.stP Tryd.sizeOf3 (GOk.no rfl) rfl rfl rfl rfl rfl (Nat.le_of_ble_eq_true rfl) ?_ | refine R.stPB Tryd.sizeOf3 (GOk.no rfl) rfl rfl rfl rfl rfl ?_ | refine R.stB Tryd.sizeOf3 (GOk.no rfl) rfl rfl rfl rfl (Nat.le_of_ble_eq_true rfl) ?_
                          refine Run.nil ⟨by kernel_rfl, ?_⟩
                          refine J.region ?_
                          refine R.move (GOk.no rfl) rfl rfl ?_
                          refine R.move (GOk.no rfl) rfl rfl ?_
                          refine R.sub (GOk.no rfl) rfl rfl rfl ⟨by omega, by omega⟩ ?_
                          refine R.spell 90 rfl (show _ = vI (((fstN l k).toNat : Nat) - 1 : Int) from vI_eq (by omega)) ?_
                          refine R.call [((.tmp 88), _), ((.tmp 90), _)] (ih (fstN l k).toNat (by omega) (by omega)) rfl (GOk.no rfl) rfl ⟨rfl, rfl, trivial⟩ ?_
                          refine R.assign (GOk.no rfl) rfl rfl ?_
                          refine Run.nil ⟨by kernel_rfl, ?_⟩
                          first | (exfalso; omega) | exact toQ.mk (Gh.weak [(5, vC (.ptr 5 0)), (6, vC (.ptr 6 0)), (7, vI ((k : Int)))] [(5, some (.pbox (encN l[k]!))), (6, some (.pbox (encN { (default : Nd) with kind := l[k]!.kind })))] ⟨rfl, rfl, rfl, trivial⟩ ⟨rfl, rfl, trivial⟩) ⟨{ (default : Nd) with kind := l[k]!.kind }, (k : Int), by rw [fstN]; simp [*, -List.getElem!_eq_getElem?_getD], rfl, rfl⟩ | exact toQ.mk (Gh.weak [(5, vC (.ptr 5 0)), (6, vC (.ptr 6 0)), (7, vI ((k : Int)))] [(5, some (.pbox (encN l[k]!))), (6, some (.pbox (encN { (default : Nd) with kind := l[k]!.kind, cls := l[k]!.cls })))] ⟨rfl, rfl, rfl, trivial⟩ ⟨rfl, rfl, trivial⟩) ⟨{ (default : Nd) with kind := l[k]!.kind, cls := l[k]!.cls }, (k : Int), by rw [fstN]; simp [*, -List.getElem!_eq_getElem?_getD], rfl, rfl⟩ | exact toQ.mk (Gh.weak [(5, vC (.ptr 5 0)), (6, vC (.ptr 6 0)), (7, vI ((k : Int)))] [(5, some (.pbox (encN l[k]!))), (6, some (.pbox (encN { (default : Nd) with kind := l[k]!.kind, text := l[k]!.text })))] ⟨rfl, rfl, rfl, trivial⟩ ⟨rfl, rfl, trivial⟩) ⟨{ (default : Nd) with kind := l[k]!.kind, text := l[k]!.text }, (k : Int), by rw [fstN]; simp [*, -List.getElem!_eq_getElem?_getD], rfl, rfl⟩ | exact toQ.mk (Gh.weak [(5, vC (.ptr 5 0)), (6, vC (.ptr 6 0)), (7, vI (fstN l k))] [(5, some (.pbox (encN l[k]!))), (6, some (.pbox (encN { (default : Nd) with kind := l[k]!.kind, a := (k : Int) - 1 })))] ⟨rfl, rfl, rfl, trivial⟩ ⟨rfl, rfl, trivial⟩) ⟨{ (default : Nd) with kind := l[k]!.kind, a := (k : Int) - 1 }, fstN l k, by rw [fstN]; simp [*, -List.getElem!_eq_getElem?_getD], rfl, rfl⟩ | exact toQ.mk (Gh.weak [(5, vC (.ptr 5 0)), (6, vC (.ptr 6 0)), (7, vI (fstN l k))] [(5, some (.pbox (encN l[k]!))), (6, some (.pbox (encN { (default : Nd) with kind := l[k]!.kind, a := (k : Int) - 1, lo := l[k]!.lo, hi := l[k]!.hi })))] ⟨rfl, rfl, rfl, trivial⟩ ⟨rfl, rfl, trivial⟩) ⟨{ (default : Nd) with kind := l[k]!.kind, a := (k : Int) - 1, lo := l[k]!.lo, hi := l[k]!.hi }, fstN l k, by rw [fstN]; simp [*, -List.getElem!_eq_getElem?_getD], rfl, rfl⟩ | exact toQ.mk (Gh.weak [(5, vC (.ptr 5 0)), (6, vC (.ptr 6 0)), (7, vI (fstN l (fstN l k).toNat))] [(5, some (.pbox (encN l[k]!))), (6, some (.pbox (encN { (default : Nd) with kind := l[k]!.kind, b := (k : Int) - 1, a := fstN l k - 1 })))] ⟨rfl, rfl, rfl, trivial⟩ ⟨rfl, rfl, trivial⟩) ⟨{ (default : Nd) with kind := l[k]!.kind, b := (k : Int) - 1, a := fstN l k - 1 }, fstN l (fstN l k).toNat, by rw [fstN]; simp [*, -List.getElem!_eq_getElem?_getD], rfl, rfl⟩
                      · try simp only [decide_eq_true_eq, decide_eq_false_iff_not, beq_iff_eq, beq_eq_false_iff_ne, bne_iff_ne, bne_eq_false_iff_eq, ne_eq, Bool.not_eq_true', Bool.not_eq_false', Decidable.not_not, Int.toNat_natCast] at hc46
                        refine J.seq ?_
                        refine J.region ?_
                        refine R.assign (GOk.no rfl) rfl rfl ?_
                        refine Run.nil ⟨by kernel_rfl, ?_⟩
                        refine J.ret ?_
                        first | exact FinQ.of ⟨ret_eq rfl (svI (by have e : j = 0 := (by omega); subst e; rw [fstN])), trivial⟩ trivial | exact FinQ.of ⟨ret_eq rfl (svI (by rw [hM, if_pos (show l[k]!.same wn = true from hc2)])), trivial⟩ trivial | exact FinQ.of ⟨ret_eq rfl (svI (by rw [hM, if_neg (show ¬ (l[k]!.same wn = true) from by rw [hc2]; decide)])), trivial⟩ trivial | exact FinQ.of ⟨ret_eq rfl (svI (by omega)), trivial⟩ trivial | exact FinQ.of ⟨ret_eq rfl (svI (by rw [fstN]; simp [*, -List.getElem!_eq_getElem?_getD])), trivial⟩ trivial
                    · try simp only [decide_eq_true_eq, decide_eq_false_iff_not, beq_iff_eq, beq_eq_false_iff_ne, bne_iff_ne, bne_eq_false_iff_eq, ne_eq, Bool.not_eq_true', Bool.not_eq_false', Decidable.not_not, Int.toNat_natCast] at hc45
                      refine J.region ?_
                      refine R.eql (GOk.no rfl) rfl rfl rfl ?_
                      refine R.assign (GOk.no rfl) rfl rfl ?_
                      refine Run.nil ⟨by kernel_rfl, ?_⟩
                      refine J.cond rfl (fun hc48 => ?_) (fun hc48 => ?_)
                      · try simp only [decide_eq_true_eq, decide_eq_false_iff_not, beq_iff_eq, beq_eq_false_iff_ne, bne_iff_ne, bne_eq_false_iff_eq, ne_eq, Bool.not_eq_true', Bool.not_eq_false', Decidable.not_not, Int.toNat_natCast] at hc48
                        refine J.seq ?_
                        refine J.region ?_
                        refine R.move (GOk.no rfl) rfl rfl ?_
                        refine R.sub (GOk.no rfl) rfl rfl rfl ⟨by omega, by omega⟩ ?_
                        first | refine R.fldPtr Tryd.underlying32 rfl Tryd.sizeOf3 rfl (GOk.no rfl) rfl rfl ?_ | refine R.fldAt Tryd.underlying32 rfl Tryd.sizeOf3 rfl (GOk.no rfl) rfl rfl ?_ | refine R.fldEl Tryd.underlying32 rfl Tryd.sizeOf3 rfl (GOk.no rfl) rfl rfl ?_
                        first | refine R.stP Tryd.sizeOf3 (GOk.no rfl) rfl rfl rfl rfl rfl (Nat.le_of_ble_eq_true rfl) ?_ | refine R.stPB Tryd.sizeOf3 (GOk.no rfl) rfl rfl rfl rfl rfl ?_ | refine R.stB Tryd.sizeOf3 (GOk.no rfl) rfl rfl rfl rfl (Nat.le_of_ble_eq_true rfl) ?_
                        refine Run.nil ⟨by kernel_rfl, ?_⟩
                        refine J.seq ?_
                        refine J.region ?_
                        refine R.move (GOk.no rfl) rfl rfl ?_
                        refine R.move (GOk.no rfl) rfl rfl ?_
                        refine R.sub (GOk.no rfl) rfl rfl rfl ⟨by omega, by omega⟩ ?_
                        refine R.call [((.tmp 79), _), ((.tmp 81), _)] (ih k (by omega) (by omega)) rfl (GOk.no rfl) rfl ⟨rfl, rfl, trivial⟩ ?_
                        refine R.assign (GOk.no rfl) rfl rfl ?_
                        refine Run.nil ⟨by kernel_rfl, ?_⟩
                        refine J.seq ?_
                        refine J.seq ?_
                        refine J.region ?_
                        refine R.move (GOk.no rfl) rfl rfl ?_
                        refine R.lss (GOk.no rfl) rfl rfl rfl ?_
                        refine Run.nil ⟨by kernel_rfl, ?_⟩
                        refine J.cond rfl (fun hc49 => ?_) (fun hc49 => ?_)
                        · try simp only [decide_eq_true_eq, decide_eq_false_iff_not, beq_iff_eq, beq_eq_false_iff_ne, bne_iff_ne, bne_eq_false_iff_eq, ne_eq, Bool.not_eq_true', Bool.not_eq_false', Decidable.not_not, Int.toNat_natCast] at hc49
                          refine J.seq ?_
                          refine J.region ?_
                          refine R.assign (GOk.no rfl) rfl rfl ?_
                          refine Run.nil ⟨by kernel_rfl, ?_⟩
                          refine J.ret ?_
                          first | exact FinQ.of ⟨ret_eq rfl (svI (by have e : j = 0 := (by omega); subst e; rw [fstN])), trivial⟩ trivial | exact FinQ.of ⟨ret_eq rfl (svI (by rw [hM, if_pos (show l[k]!.same wn = true from hc2)])), trivial⟩ trivial | exact FinQ.of ⟨ret_eq rfl (svI (by rw [hM, if_neg (show ¬ (l[k]!.same wn = true) from by rw [hc2]; decide)])), trivial⟩ trivial | exact FinQ.of ⟨ret_eq rfl (svI (by omega)), trivial⟩ trivial | exact FinQ.of ⟨ret_eq rfl (svI (by rw [fstN]; simp [*, -List.getElem!_eq_getElem?_getD])), trivial⟩ trivial
                        · try simp only [decide_eq_true_eq, decide_eq_false_iff_not, beq_iff_eq, beq_eq_false_iff_ne, bne_iff_ne, bne_eq_false_iff_eq, ne_eq, Bool.not_eq_true', Bool.not_eq_false', Decidable.not_not, Int.toNat_natCast] at hc49
                          refine J.skip ?_
                          refine J.seq ?_
                          refine J.region ?_
                          refine R.move (GOk.no rfl) rfl rfl ?_
                          refine R.sub (GOk.no rfl) rfl rfl rfl ⟨by omega, by omega⟩ ?_
                          first | refine R.fldPtr Tryd.underlying32 rfl Tryd.sizeOf3 rfl (GOk.no rfl) rfl rfl ?_ | refine R.fldAt Tryd.underlying32 rfl Tryd.sizeOf3 rfl (GOk.no rfl) rfl rfl ?_ | refine R.fldEl Tryd.underlying32 rfl Tryd.sizeOf3 rfl (GOk.no rfl) rfl rfl ?_
                          first | refine R.stP Tryd.sizeOf3 (GOk.no rfl) rfl rfl rfl rfl rfl (Nat.le_of_ble_eq_true rfl) ?_ | refine R.stPB Tryd.sizeOf3 (GOk.no rfl) rfl rfl rfl rfl rfl ?_ | refine R.stB Tryd.sizeOf3 (GOk.no rfl) rfl rfl rfl rfl (Nat.le_of_ble_eq_true rfl) ?_
                          refine Run.nil ⟨by kernel_rfl, ?_⟩
                          refine J.region ?_
                          refine R.move (GOk.no rfl) rfl rfl ?_
                          refine R.move (GOk.no rfl) rfl rfl ?_
                          refine R.sub (GOk.no rfl) rfl rfl rfl ⟨by omega, by omega⟩ ?_
                          refine R.spell 90 rfl (show _ = vI (((fstN l k).toNat : Nat) - 1 : Int) from vI_eq (by omega)) ?_
                          refine R.call [((.tmp 88), _), ((.tmp 90), _)] (ih (fstN l k).toNat (by omega) (by omega)) rfl (GOk.no rfl) rfl ⟨rfl, rfl, trivial⟩ ?_
                          refine R.assign (GOk.no rfl) rfl rfl ?_
                          refine Run.nil ⟨by kernel_rfl, ?_⟩
                          first | (exfalso; omega) | exact toQ.mk (Gh.weak [(5, vC (.ptr 5 0)), (6, vC (.ptr 6 0)), (7, vI ((k : Int)))] [(5, some (.pbox (encN l[k]!))), (6, some (.pbox (encN { (default : Nd) with kind := l[k]!.kind })))] ⟨rfl, rfl, rfl, trivial⟩ ⟨rfl, rfl, trivial⟩) ⟨{ (default : Nd) with kind := l[k]!.kind }, (k : Int), by rw [fstN]; simp [*, -List.getElem!_eq_getElem?_getD], rfl, rfl⟩ | exact toQ.mk (Gh.weak [(5, vC (.ptr 5 0)), (6, vC (.ptr 6 0)), (7, vI ((k : Int)))] [(5, some (.pbox (encN l[k]!))), (6, some (.pbox (encN { (default : Nd) with kind := l[k]!.kind, cls := l[k]!.cls })))] ⟨rfl, rfl, rfl, trivial⟩ ⟨rfl, rfl, trivial⟩) ⟨{ (default : Nd) with kind := l[k]!.kind, cls := l[k]!.cls }, (k : Int), by rw [fstN]; simp [*, -List.getElem!_eq_getElem?_getD], rfl, rfl⟩ | exact toQ.mk (Gh.weak [(5, vC (.ptr 5 0)), (6, vC (.ptr 6 0)), (7, vI ((k : Int)))] [(5, some (.pbox (encN l[k]!))), (6, some (.pbox (encN { (default : Nd) with kind := l[k]!.kind, text := l[k]!.text })))] ⟨rfl, rfl, rfl, trivial⟩ ⟨rfl, rfl, trivial⟩) ⟨{ (default : Nd) with kind := l[k]!.kind, text := l[k]!.text }, (k : Int), by rw [fstN]; simp [*, -List.getElem!_eq_getElem?_getD], rfl, rfl⟩ | exact toQ.mk (Gh.weak [(5, vC (.ptr 5 0)), (6, vC (.ptr 6 0)), (7, vI (fstN l k))] [(5, some (.pbox (encN l[k]!))), (6, some (.pbox (encN { (default : Nd) with kind := l[k]!.kind, a := (k : Int) - 1 })))] ⟨rfl, rfl, rfl, trivial⟩ ⟨rfl, rfl, trivial⟩) ⟨{ (default : Nd) with kind := l[k]!.kind, a := (k : Int) - 1 }, fstN l k, by rw [fstN]; simp [*, -List.getElem!_eq_getElem?_getD], rfl, rfl⟩ | exact toQ.mk (Gh.weak [(5, vC (.ptr 5 0)), (6, vC (.ptr 6 0)), (7, vI (fstN l k))] [(5, some (.pbox (encN l[k]!))), (6, some (.pbox (encN { (default : Nd) with kind := l[k]!.kind, a := (k : Int) - 1, lo := l[k]!.lo, hi := l[k]!.hi })))] ⟨rfl, rfl, rfl, trivial⟩ ⟨rfl, rfl, trivial⟩) ⟨{ (default : Nd) with kind := l[k]!.kind, a := (k : Int) - 1, lo := l[k]!.lo, hi := l[k]!.hi }, fstN l k, by rw [fstN]; simp [*, -List.getElem!_eq_getElem?_getD], rfl, rfl⟩ | exact toQ.mk (Gh.weak [(5, vC (.ptr 5 0)), (6, vC (.ptr 6 0)), (7, vI (fstN l (fstN l k).toNat))] [(5, some (.pbox (encN l[k]!))), (6, some (.pbox (encN { (default : Nd) with kind := l[k]!.kind, b := (k : Int) - 1, a := fstN l k - 1 })))] ⟨rfl, rfl, rfl, trivial⟩ ⟨rfl, rfl, trivial⟩) ⟨{ (default : Nd) with kind := l[k]!.kind, b := (k : Int) - 1, a := fstN l k - 1 }, fstN l (fstN l k).toNat, by rw [fstN]; simp [*, -List.getElem!_eq_getElem?_getD], rfl, rfl⟩
                      · try simp only [decide_eq_true_eq, decide_eq_false_iff_not, beq_iff_eq, beq_eq_false_iff_ne, bne_iff_ne, bne_eq_false_iff_eq, ne_eq, Bool.not_eq_true', Bool.not_eq_false', Decidable.not_not, Int.toNat_natCast] at hc48
                        refine J.seq ?_
                        refine J.region ?_
                        refine R.assign (GOk.no rfl) rfl rfl ?_
                        refine Run.nil ⟨by kernel_rfl, ?_⟩
                        refine J.ret ?_
                        first | exact FinQ.of ⟨ret_eq rfl (svI (by have e : j = 0 := (by omega); subst e; rw [fstN])), trivial⟩ trivial | exact FinQ.of ⟨ret_eq rfl (svI (by rw [hM, if_pos (show l[k]!.same wn = true from hc2)])), trivial⟩ trivial | exact FinQ.of ⟨ret_eq rfl (svI (by rw [hM, if_neg (show ¬ (l[k]!.same wn = true) from by rw [hc2]; decide)])), trivial⟩ trivial | exact FinQ.of ⟨ret_eq rfl (svI (by omega)), trivial⟩ trivial | exact FinQ.of ⟨ret_eq rfl (svI (by rw [fstN]; simp [*, -List.getElem!_eq_getElem?_getD])), trivial⟩ trivial
theorem con_6 (l : List Nd) (hl : l.length ≤ 4611686018427387904) (hT : ∀ x ∈ l, x.text.size ≤ 140737488355328) : Con Tryd.prog 6 [sD l] [] [sB (formB l)] [] [] := by
  refine con_of_J [] Tryd.func6 rfl rfl Tryd.ntmps6 rfl (Nat.le_of_ble_eq_true rfl) rfl rfl ?_
  refine J.seq ?_
  refine J.region ?_
  first | refine R.boxP rfl (GOk.no rfl) rfl rfl ?_ | refine R.boxA (GOk.no rfl) rfl rfl rfl ?_
  refine R.assign (GOk.no rfl) rfl rfl ?_
  refine Run.nil ⟨by kernel_rfl, ?_⟩
  refine J.seq ?_
  refine J.region ?_
  first | refine R.fldPtr Tryd.underlying24 rfl Tryd.sizeOf22 rfl (GOk.no rfl) rfl rfl ?_ | refine R.fldAt Tryd.underlying24 rfl Tryd.sizeOf22 rfl (GOk.no rfl) rfl rfl ?_ | refine R.fldEl Tryd.underlying24 rfl Tryd.sizeOf22 rfl (GOk.no rfl) rfl rfl ?_
  first | refine R.ldP1 Tryd.isAgg22 (GOk.no rfl) rfl rfl rfl rfl ?_ | refine R.ldAt1 Tryd.isAgg22 (GOk.no rfl) rfl rfl rfl ?_ | refine R.ldB1 Tryd.isAgg22 (GOk.no rfl) rfl rfl rfl rfl ?_ | refine R.ldElM1 Tryd.isAgg22 (GOk.no rfl) rfl rfl rfl (by omega) rfl ?_
  refine R.lenL Tryd.underlying22 (GOk.no rfl) rfl rfl ?_
  refine R.spell 5 rfl (show _ = vI (l.length : Int) from vI_eq (by rw [List.length_map])) ?_
  refine R.gtr (GOk.no rfl) rfl rfl rfl ?_
  refine R.move (GOk.no rfl) rfl rfl ?_
  refine R.case 7 rfl (fun hg1 => ?_) (fun hg1 => ?_)
  · try simp only [decide_eq_true_eq, decide_eq_false_iff_not, beq_iff_eq, beq_eq_false_iff_ne, bne_iff_ne, bne_eq_false_iff_eq, ne_eq, Bool.not_eq_true', Bool.not_eq_false', Decidable.not_not, Int.toNat_natCast] at hg1
    first | refine R.fldPtr Tryd.underlying24 rfl Tryd.sizeOf22 rfl (GOk.of rfl rfl rfl _ rfl) rfl rfl ?_ | refine R.fldAt Tryd.underlying24 rfl Tryd.sizeOf22 rfl (GOk.of rfl rfl rfl _ rfl) rfl rfl ?_ | refine R.fldEl Tryd.underlying24 rfl Tryd.sizeOf22 rfl (GOk.of rfl rfl rfl _ rfl) rfl rfl ?_
    first | refine R.ldP1 Tryd.isAgg22 (GOk.of rfl rfl rfl _ rfl) rfl rfl rfl rfl ?_ | refine R.ldAt1 Tryd.isAgg22 (GOk.of rfl rfl rfl _ rfl) rfl rfl rfl ?_ | refine R.ldB1 Tryd.isAgg22 (GOk.of rfl rfl rfl _ rfl) rfl rfl rfl rfl ?_ | refine R.ldElM1 Tryd.isAgg22 (GOk.of rfl rfl rfl _ rfl) rfl rfl rfl (by omega) rfl ?_
    first | refine R.fldPtr Tryd.underlying24 rfl Tryd.sizeOf22 rfl (GOk.of rfl rfl rfl _ rfl) rfl rfl ?_ | refine R.fldAt Tryd.underlying24 rfl Tryd.sizeOf22 rfl (GOk.of rfl rfl rfl _ rfl) rfl rfl ?_ | refine R.fldEl Tryd.underlying24 rfl Tryd.sizeOf22 rfl (GOk.of rfl rfl rfl _ rfl) rfl rfl ?_
    first | refine R.ldP1 Tryd.isAgg22 (GOk.of rfl rfl rfl _ rfl) rfl rfl rfl rfl ?_ | refine R.ldAt1 Tryd.isAgg22 (GOk.of rfl rfl rfl _ rfl) rfl rfl rfl ?_ | refine R.ldB1 Tryd.isAgg22 (GOk.of rfl rfl rfl _ rfl) rfl rfl rfl rfl ?_ | refine R.ldElM1 Tryd.isAgg22 (GOk.of rfl rfl rfl _ rfl) rfl rfl rfl (by omega) rfl ?_
    refine R.lenL Tryd.underlying22 (GOk.of rfl rfl rfl _ rfl) rfl rfl ?_
    refine R.spell 12 rfl (show _ = vI (l.length : Int) from vI_eq (by rw [List.length_map])) ?_
    refine R.sub (GOk.of rfl rfl rfl _ rfl) rfl rfl rfl ⟨by omega, by omega⟩ ?_
    refine R.call [((.tmp 9), _), ((.tmp 13), _)] (con_13 l hl hT l.length (Nat.le_refl _)) rfl (GOk.of rfl rfl rfl _ rfl) rfl ⟨rfl, rfl, trivial⟩ ?_
    refine R.eql (GOk.of rfl rfl rfl _ rfl) rfl rfl rfl ?_
    first | refine R.pickT (GOk.no rfl) rfl rfl rfl ?_ | refine R.pickF (GOk.no rfl) rfl rfl rfl ?_
    refine R.assign (GOk.no rfl) rfl rfl ?_
    refine Run.nil ⟨by kernel_rfl, ?_⟩
    refine J.ret ?_
    exact FinQ.of ⟨ret_eq rfl (svB (by simp [formB] <;> (intros; omega))), trivial⟩ trivial
  · try simp only [decide_eq_true_eq, decide_eq_false_iff_not, beq_iff_eq, beq_eq_false_iff_ne, bne_iff_ne, bne_eq_false_iff_eq, ne_eq, Bool.not_eq_true', Bool.not_eq_false', Decidable.not_not, Int.toNat_natCast] at hg1
    refine R.pass (GOk.of rfl rfl rfl _ rfl) rfl ?_
    refine R.pass (GOk.of rfl rfl rfl _ rfl) rfl ?_
    refine R.pass (GOk.of rfl rfl rfl _ rfl) rfl ?_
    refine R.pass (GOk.of rfl rfl rfl _ rfl) rfl ?_
    refine R.pass (GOk.of rfl rfl rfl _ rfl) rfl ?_
    refine R.pass (GOk.of rfl rfl rfl _ rfl) rfl ?_
    refine R.pass (GOk.of rfl rfl rfl _ rfl) rfl ?_
    refine R.pass (GOk.of rfl rfl rfl _ rfl) rfl ?_
    first | refine R.pickT (GOk.no rfl) rfl rfl rfl ?_ | refine R.pickF (GOk.no rfl) rfl rfl rfl ?_
    refine R.assign (GOk.no rfl) rfl rfl ?_
    refine Run.nil ⟨by kernel_rfl, ?_⟩
    refine J.ret ?_
    exact FinQ.of ⟨ret_eq rfl (svB (by simp [formB] <;> (intros; omega))), trivial⟩ trivial
theorem con_15 (l : List Nd) (y : Int) (hl : l.length ≤ 1000000000) (hm : ∀ x ∈ l, mvOk y x) : Con Tryd.prog 15 [sN l, sI y] [] [.one (.hs 1000 ((l.map (mv y)).map encN).length)] [(1000, some (.hot 10 ((l.map (mv y)).map encN)))] [1000] := by
  refine con_of_J [(1000, 905)] Tryd.func15 rfl rfl Tryd.ntmps15 rfl (Nat.le_of_ble_eq_true rfl) rfl rfl ?_
  refine J.seq ?_
  refine J.region ?_
  refine R.assign (GOk.no rfl) rfl rfl ?_
  refine Run.nil ⟨by kernel_rfl, ?_⟩
  refine J.seq ?_
  refine J.region ?_
  refine R.assign (GOk.no rfl) rfl rfl ?_
  refine Run.nil ⟨by kernel_rfl, ?_⟩
  refine J.seq ?_
  refine J.seq ?_
  refine J.region ?_
  refine R.assign (GOk.no rfl) rfl rfl ?_
  refine Run.nil ⟨by kernel_rfl, ?_⟩
  refine J.block ?_
  refine J.gh (Gh.step ⟨[], [905], []⟩ [(6, vI ((0 : Nat) : Int)), (5, vC (.hs 905 0)), (0, vP (pN l)), (1, vI y)] [(905, some (.hot 10 []))] trivial (by kernel_rfl) ⟨⟨_, rfl, Or.inl ⟨rfl, rfl⟩⟩, ⟨_, rfl, Or.inr (Or.inr (Or.inr ⟨_, rfl, rfl, rfl⟩))⟩, ⟨_, rfl, Or.inl ⟨rfl, rfl⟩⟩, ⟨_, rfl, Or.inl ⟨rfl, rfl⟩⟩, trivial⟩ ⟨⟨_, rfl, Or.inr ⟨rfl, rfl, _, rfl⟩⟩, trivial⟩ (by kernel_rfl) (by kernel_rfl)) ?_
  refine J.loopG (fun (i : Nat) f b => (i ≤ l.length) ∧ f = Facts.fn [(6, vI ((i : Nat) : Int)), (5, vC (.hs 905 (((l.take (i)).map (mv y)).map encN).length)), (0, vP (pN l)), (1, vI y)] ∧ b = BL.fn [(905, some (.hot 10 (((l.take (i)).map (mv y)).map encN)))]) (fun i => l.length - i) 0 ⟨by omega, rfl, rfl⟩ ?_
  rintro i f b ⟨hI, rfl, rfl⟩
  refine J.seq ?_
  refine J.seq ?_
  refine J.region ?_
  refine R.move (GOk.no rfl) rfl rfl ?_
  refine R.move (GOk.no rfl) rfl rfl ?_
  refine R.lenL Tryd.underlying22 (GOk.no rfl) rfl rfl ?_
  refine R.spell 10 rfl (show _ = vI (l.length : Int) from vI_eq (by rw [List.length_map])) ?_
  refine R.lss (GOk.no rfl) rfl rfl rfl ?_
  refine Run.nil ⟨by kernel_rfl, ?_⟩
  refine J.cond rfl (fun hc1 => ?_) (fun hc1 => ?_)
  · try simp only [decide_eq_true_eq, decide_eq_false_iff_not, beq_iff_eq, beq_eq_false_iff_ne, bne_iff_ne, bne_eq_false_iff_eq, ne_eq, Bool.not_eq_true', Bool.not_eq_false', Decidable.not_not, Int.toNat_natCast] at hc1
    refine J.skip ?_
    refine J.seq ?_
    refine J.block ?_
    refine J.seq ?_
    have hmi : mvOk y l[i]! := hm _ (by rw [getElem!_pos l i (by omega)]; exact List.getElem_mem _)
    refine J.region ?_
    refine R.move (GOk.no rfl) rfl rfl ?_
    refine R.move (GOk.no rfl) rfl rfl ?_
    first | refine R.idxM Tryd.underlying22 Tryd.sizeOf32 (GOk.no rfl) rfl rfl rfl (by omega) (by omega) ?_ | refine R.idxHot Tryd.underlying22 Tryd.sizeOf32 (GOk.no rfl) rfl rfl rfl (by omega) (by simp; omega) ?_
    first | refine R.ldPA Tryd.isAgg32 Tryd.sizeOf32 (GOk.no rfl) rfl rfl rfl (Nat.le_of_ble_eq_true rfl) ?_ | refine R.ldAtA Tryd.isAgg32 Tryd.sizeOf32 (GOk.no rfl) rfl rfl (Nat.le_of_ble_eq_true rfl) ?_ | refine R.ldBA Tryd.isAgg32 Tryd.sizeOf32 (GOk.no rfl) rfl rfl rfl (Nat.le_of_ble_eq_true rfl) ?_ | refine R.ldElMA Tryd.isAgg32 Tryd.sizeOf32 (GOk.no rfl) rfl rfl rfl (by omega) (Nat.le_of_ble_eq_true rfl) ?_
    refine R.alloc _ (GOk.no rfl) rfl _ Tryd.zeroValue32 rfl rfl ?_
    first | refine R.stP Tryd.sizeOf32 (GOk.no rfl) rfl rfl rfl rfl rfl (Nat.le_of_ble_eq_true rfl) ?_ | refine R.stPB Tryd.sizeOf32 (GOk.no rfl) rfl rfl rfl rfl rfl ?_ | refine R.stB Tryd.sizeOf32 (GOk.no rfl) rfl rfl rfl rfl (Nat.le_of_ble_eq_true rfl) ?_
    refine Run.nil ⟨by kernel_rfl, ?_⟩
    refine J.joinF [(7, vC (.ptr 7 0)), (6, vI ((i : Nat) : Int)), (5, vC (.hs 905 (((l.take (i)).map (mv y)).map encN).length)), (0, vP (pN l)), (1, vI y)] [(7, some (.pbox (encN (mvA y l[i]!)))), (905, some (.hot 10 (((l.take (i)).map (mv y)).map encN)))] ?_ ?_
    ·  -- behind c20
      refine J.joinF [(7, vC (.ptr 7 0)), (6, vI ((i : Nat) : Int)), (5, vC (.hs 905 (((l.take (i)).map (mv y)).map encN).length)), (0, vP (pN l)), (1, vI y)] [(7, some (.pbox (encN (mv y l[i]!)))), (905, some (.hot 10 (((l.take (i)).map (mv y)).map encN)))] ?_ ?_
      ·  -- behind c33
        refine J.region ?_
        refine R.move (GOk.no rfl) rfl rfl ?_
        first | refine R.ldPA Tryd.isAgg32 Tryd.sizeOf32 (GOk.no rfl) rfl rfl rfl (Nat.le_of_ble_eq_true rfl) ?_ | refine R.ldAtA Tryd.isAgg32 Tryd.sizeOf32 (GOk.no rfl) rfl rfl (Nat.le_of_ble_eq_true rfl) ?_ | refine R.ldBA Tryd.isAgg32 Tryd.sizeOf32 (GOk.no rfl) rfl rfl rfl (Nat.le_of_ble_eq_true rfl) ?_ | refine R.ldElMA Tryd.isAgg32 Tryd.sizeOf32 (GOk.no rfl) rfl rfl rfl (by omega) (Nat.le_of_ble_eq_true rfl) ?_
        refine R.litF [((.tmp 40), _)] (GOk.no rfl) rfl ⟨rfl, trivial⟩ Tryd.underlying22 Tryd.sizeOf32 Tryd.zeroValue32 rfl rfl rfl rfl ?_
        first | refine R.appH (bt := 88) Tryd.underlying22 Tryd.underlying22 Tryd.sizeOf32 Tryd.typeInfo32 rfl Tryd.zeroValue32 rfl (GOk.no rfl) rfl rfl rfl rfl rfl (by simp; omega) ?_ | refine R.appN (bt := 88) Tryd.underlying22 Tryd.underlying22 Tryd.sizeOf32 Tryd.typeInfo32 rfl Tryd.zeroValue32 rfl (GOk.no rfl) rfl rfl rfl (by simp) ?_
        refine R.assign (GOk.no rfl) rfl rfl ?_
        refine Run.nil ⟨by kernel_rfl, ?_⟩
        refine J.region ?_
        refine R.move (GOk.no rfl) rfl rfl ?_
        refine R.add (GOk.no rfl) rfl rfl rfl ⟨by omega, by omega⟩ ?_
        refine R.assign (GOk.no rfl) rfl rfl ?_
        refine Run.nil ⟨by kernel_rfl, ?_⟩
        exact toQ.mk (Gh.step ⟨[], [], [(905, 42)]⟩ [(6, vI (((i + 1) : Nat) : Int)), (5, vC (.hs 905 (((l.take (i + 1)).map (mv y)).map encN).length)), (0, vP (pN l)), (1, vI y)] [(905, some (.hot 10 (((l.take (i + 1)).map (mv y)).map encN)))] trivial (by kernel_rfl) ⟨⟨_, rfl, Or.inl ⟨rfl, rfl⟩⟩, ⟨_, rfl, Or.inl ⟨congrArg (AC.hs 42) (by rw [← take_succ_map (by omega)]; simp), rfl⟩⟩, ⟨_, rfl, Or.inl ⟨rfl, rfl⟩⟩, ⟨_, rfl, Or.inl ⟨rfl, rfl⟩⟩, trivial⟩ ⟨⟨_, rfl, Or.inl ⟨_, rfl, ⟨congrArg (AO.hot 10) (by rw [← take_succ_map (by omega), List.map_append]; rfl), rfl⟩, rfl⟩⟩, trivial⟩ (by kernel_rfl) (by kernel_rfl)) ⟨i + 1, ⟨by omega, rfl, rfl⟩, by omega⟩
      ·  -- c33
        refine J.seq ?_
        refine J.region ?_
        first | refine R.fldPtr Tryd.underlying32 rfl Tryd.sizeOf3 rfl (GOk.no rfl) rfl rfl ?_ | refine R.fldAt Tryd.underlying32 rfl Tryd.sizeOf3 rfl (GOk.no rfl) rfl rfl ?_ | refine R.fldEl Tryd.underlying32 rfl Tryd.sizeOf3 rfl (GOk.no rfl) rfl rfl ?_
        first | refine R.ldP1 Tryd.isAgg3 (GOk.no rfl) rfl rfl rfl rfl ?_ | refine R.ldAt1 Tryd.isAgg3 (GOk.no rfl) rfl rfl rfl ?_ | refine R.ldB1 Tryd.isAgg3 (GOk.no rfl) rfl rfl rfl rfl ?_ | refine R.ldElM1 Tryd.isAgg3 (GOk.no rfl) rfl rfl rfl (by omega) rfl ?_
        refine R.eql (GOk.no rfl) rfl rfl rfl ?_
        refine R.move (GOk.no rfl) rfl rfl ?_
        refine R.case 29 rfl (fun hg2 => ?_) (fun hg2 => ?_)
        · try simp only [decide_eq_true_eq, decide_eq_false_iff_not, beq_iff_eq, beq_eq_false_iff_ne, bne_iff_ne, bne_eq_false_iff_eq, ne_eq, Bool.not_eq_true', Bool.not_eq_false', Decidable.not_not, Int.toNat_natCast] at hg2
          refine R.pass (GOk.of rfl rfl rfl _ rfl) rfl ?_
          refine R.pass (GOk.of rfl rfl rfl _ rfl) rfl ?_
          refine R.pass (GOk.of rfl rfl rfl _ rfl) rfl ?_
          first | refine R.pickT (GOk.no rfl) rfl rfl rfl ?_ | refine R.pickF (GOk.no rfl) rfl rfl rfl ?_
          refine Run.nil ⟨by kernel_rfl, ?_⟩
          refine J.condT rfl ?_
          refine J.region ?_
          first | refine R.fldPtr Tryd.underlying32 rfl Tryd.sizeOf3 rfl (GOk.no rfl) rfl rfl ?_ | refine R.fldAt Tryd.underlying32 rfl Tryd.sizeOf3 rfl (GOk.no rfl) rfl rfl ?_ | refine R.fldEl Tryd.underlying32 rfl Tryd.sizeOf3 rfl (GOk.no rfl) rfl rfl ?_
          first | refine R.ldP1 Tryd.isAgg3 (GOk.no rfl) rfl rfl rfl rfl ?_ | refine R.ldAt1 Tryd.isAgg3 (GOk.no rfl) rfl rfl rfl ?_ | refine R.ldB1 Tryd.isAgg3 (GOk.no rfl) rfl rfl rfl rfl ?_ | refine R.ldElM1 Tryd.isAgg3 (GOk.no rfl) rfl rfl rfl (by omega) rfl ?_
          refine R.move (GOk.no rfl) rfl rfl ?_
          refine R.add (GOk.no rfl) rfl rfl rfl (by rw [mvA_b]; exact hmi.2 (by rw [← mvA_kind y]; first | exact Or.inl (by assumption) | exact Or.inr (by assumption))) ?_
          first | refine R.fldPtr Tryd.underlying32 rfl Tryd.sizeOf3 rfl (GOk.no rfl) rfl rfl ?_ | refine R.fldAt Tryd.underlying32 rfl Tryd.sizeOf3 rfl (GOk.no rfl) rfl rfl ?_ | refine R.fldEl Tryd.underlying32 rfl Tryd.sizeOf3 rfl (GOk.no rfl) rfl rfl ?_
          first | refine R.stP Tryd.sizeOf3 (GOk.no rfl) rfl rfl rfl rfl rfl (Nat.le_of_ble_eq_true rfl) ?_ | refine R.stPB Tryd.sizeOf3 (GOk.no rfl) rfl rfl rfl rfl rfl ?_ | refine R.stB Tryd.sizeOf3 (GOk.no rfl) rfl rfl rfl rfl (Nat.le_of_ble_eq_true rfl) ?_
          refine Run.nil ⟨by kernel_rfl, ?_⟩
          first | exact toQ.mk (Gh.weak [(7, vC (.ptr 7 0)), (6, vI ((i : Nat) : Int)), (5, vC (.hs 905 (((l.take (i)).map (mv y)).map encN).length)), (0, vP (pN l)), (1, vI y)] [(7, some (.pbox (encN (mv y l[i]!)))), (905, some (.hot 10 (((l.take (i)).map (mv y)).map encN)))] ⟨rfl, rfl, rfl, rfl, rfl, trivial⟩ ⟨bi_eq rfl (by rw [mv, mvB, if_pos (Or.inl (by assumption))]; rfl), rfl, trivial⟩) ⟨rfl, rfl⟩ | exact toQ.mk (Gh.weak [(7, vC (.ptr 7 0)), (6, vI ((i : Nat) : Int)), (5, vC (.hs 905 (((l.take (i)).map (mv y)).map encN).length)), (0, vP (pN l)), (1, vI y)] [(7, some (.pbox (encN (mv y l[i]!)))), (905, some (.hot 10 (((l.take (i)).map (mv y)).map encN)))] ⟨rfl, rfl, rfl, rfl, rfl, trivial⟩ ⟨bi_eq rfl (by rw [mv, mvB, if_pos (Or.inr (by assumption))]; rfl), rfl, trivial⟩) ⟨rfl, rfl⟩ | exact toQ.mk (Gh.weak [(7, vC (.ptr 7 0)), (6, vI ((i : Nat) : Int)), (5, vC (.hs 905 (((l.take (i)).map (mv y)).map encN).length)), (0, vP (pN l)), (1, vI y)] [(7, some (.pbox (encN (mv y l[i]!)))), (905, some (.hot 10 (((l.take (i)).map (mv y)).map encN)))] ⟨rfl, rfl, rfl, rfl, rfl, trivial⟩ ⟨bi_eq rfl (by rw [mv, mvB, if_neg (by omega)]), rfl, trivial⟩) ⟨rfl, rfl⟩
        · try simp only [decide_eq_true_eq, decide_eq_false_iff_not, beq_iff_eq, beq_eq_false_iff_ne, bne_iff_ne, bne_eq_false_iff_eq, ne_eq, Bool.not_eq_true', Bool.not_eq_false', Decidable.not_not, Int.toNat_natCast] at hg2
          first | refine R.fldPtr Tryd.underlying32 rfl Tryd.sizeOf3 rfl (GOk.of rfl rfl rfl _ rfl) rfl rfl ?_ | refine R.fldAt Tryd.underlying32 rfl Tryd.sizeOf3 rfl (GOk.of rfl rfl rfl _ rfl) rfl rfl ?_ | refine R.fldEl Tryd.underlying32 rfl Tryd.sizeOf3 rfl (GOk.of rfl rfl rfl _ rfl) rfl rfl ?_
          first | refine R.ldP1 Tryd.isAgg3 (GOk.of rfl rfl rfl _ rfl) rfl rfl rfl rfl ?_ | refine R.ldAt1 Tryd.isAgg3 (GOk.of rfl rfl rfl _ rfl) rfl rfl rfl ?_ | refine R.ldB1 Tryd.isAgg3 (GOk.of rfl rfl rfl _ rfl) rfl rfl rfl rfl ?_ | refine R.ldElM1 Tryd.isAgg3 (GOk.of rfl rfl rfl _ rfl) rfl rfl rfl (by omega) rfl ?_
          refine R.eql (GOk.of rfl rfl rfl _ rfl) rfl rfl rfl ?_
          first | refine R.pickT (GOk.no rfl) rfl rfl rfl ?_ | refine R.pickF (GOk.no rfl) rfl rfl rfl ?_
          refine Run.nil ⟨by kernel_rfl, ?_⟩
          refine J.cond rfl (fun hc3 => ?_) (fun hc3 => ?_)
          · try simp only [decide_eq_true_eq, decide_eq_false_iff_not, beq_iff_eq, beq_eq_false_iff_ne, bne_iff_ne, bne_eq_false_iff_eq, ne_eq, Bool.not_eq_true', Bool.not_eq_false', Decidable.not_not, Int.toNat_natCast] at hc3
            refine J.region ?_
            first | refine R.fldPtr Tryd.underlying32 rfl Tryd.sizeOf3 rfl (GOk.no rfl) rfl rfl ?_ | refine R.fldAt Tryd.underlying32 rfl Tryd.sizeOf3 rfl (GOk.no rfl) rfl rfl ?_ | refine R.fldEl Tryd.underlying32 rfl Tryd.sizeOf3 rfl (GOk.no rfl) rfl rfl ?_
            first | refine R.ldP1 Tryd.isAgg3 (GOk.no rfl) rfl rfl rfl rfl ?_ | refine R.ldAt1 Tryd.isAgg3 (GOk.no rfl) rfl rfl rfl ?_ | refine R.ldB1 Tryd.isAgg3 (GOk.no rfl) rfl rfl rfl rfl ?_ | refine R.ldElM1 Tryd.isAgg3 (GOk.no rfl) rfl rfl rfl (by omega) rfl ?_
            refine R.move (GOk.no rfl) rfl rfl ?_
            refine R.add (GOk.no rfl) rfl rfl rfl (by rw [mvA_b]; exact hmi.2 (by rw [← mvA_kind y]; first | exact Or.inl (by assumption) | exact Or.inr (by assumption))) ?_
            first | refine R.fldPtr Tryd.underlying32 rfl Tryd.sizeOf3 rfl (GOk.no rfl) rfl rfl ?_ | refine R.fldAt Tryd.underlying32 rfl Tryd.sizeOf3 rfl (GOk.no rfl) rfl rfl ?_ | refine R.fldEl Tryd.underlying32 rfl Tryd.sizeOf3 rfl (GOk.no rfl) rfl rfl ?_
            first | refine R.stP Tryd.sizeOf3 (GOk.no rfl) rfl rfl rfl rfl rfl (Nat.le_of_ble_eq_true rfl) ?_ | refine R.stPB Tryd.sizeOf3 (GOk.no rfl) rfl rfl rfl rfl rfl ?_ | refine R.stB Tryd.sizeOf3 (GOk.no rfl) rfl rfl rfl rfl (Nat.le_of_ble_eq_true rfl) ?_
            refine Run.nil ⟨by kernel_rfl, ?_⟩
            first | exact toQ.mk (Gh.weak [(7, vC (.ptr 7 0)), (6, vI ((i : Nat) : Int)), (5, vC (.hs 905 (((l.take (i)).map (mv y)).map encN).length)), (0, vP (pN l)), (1, vI y)] [(7, some (.pbox (encN (mv y l[i]!)))), (905, some (.hot 10 (((l.take (i)).map (mv y)).map encN)))] ⟨rfl, rfl, rfl, rfl, rfl, trivial⟩ ⟨bi_eq rfl (by rw [mv, mvB, if_pos (Or.inl (by assumption))]; rfl), rfl, trivial⟩) ⟨rfl, rfl⟩ | exact toQ.mk (Gh.weak [(7, vC (.ptr 7 0)), (6, vI ((i : Nat) : Int)), (5, vC (.hs 905 (((l.take (i)).map (mv y)).map encN).length)), (0, vP (pN l)), (1, vI y)] [(7, some (.pbox (encN (mv y l[i]!)))), (905, some (.hot 10 (((l.take (i)).map (mv y)).map encN)))] ⟨rfl, rfl, rfl, rfl, rfl, trivial⟩ ⟨bi_eq rfl (by rw [mv, mvB, if_pos (Or.inr (by assumption))]; rfl), rfl, trivial⟩) ⟨rfl, rfl⟩ | exact toQ.mk (Gh.weak [(7, vC (.ptr 7 0)), (6, vI ((i : Nat) : Int)), (5, vC (.hs 905 (((l.take (i)).map (mv y)).map encN).length)), (0, vP (pN l)), (1, vI y)] [(7, some (.pbox (encN (mv y l[i]!)))), (905, some (.hot 10 (((l.take (i)).map (mv y)).map encN)))] ⟨rfl, rfl, rfl, rfl, rfl, trivial⟩ ⟨bi_eq rfl (by rw [mv, mvB, if_neg (by omega)]), rfl, trivial⟩) ⟨rfl, rfl⟩
          · try simp only [decide_eq_true_eq, decide_eq_false_iff_not, beq_iff_eq, beq_eq_false_iff_ne, bne_iff_ne, bne_eq_false_iff_eq, ne_eq, Bool.not_eq_true', Bool.not_eq_false', Decidable.not_not, Int.toNat_natCast] at hc3
            refine J.skip ?_
            first | exact toQ.mk (Gh.weak [(7, vC (.ptr 7 0)), (6, vI ((i : Nat) : Int)), (5, vC (.hs 905 (((l.take (i)).map (mv y)).map encN).length)), (0, vP (pN l)), (1, vI y)] [(7, some (.pbox (encN (mv y l[i]!)))), (905, some (.hot 10 (((l.take (i)).map (mv y)).map encN)))] ⟨rfl, rfl, rfl, rfl, rfl, trivial⟩ ⟨bi_eq rfl (by rw [mv, mvB, if_pos (Or.inl (by assumption))]; rfl), rfl, trivial⟩) ⟨rfl, rfl⟩ | exact toQ.mk (Gh.weak [(7, vC (.ptr 7 0)), (6, vI ((i : Nat) : Int)), (5, vC (.hs 905 (((l.take (i)).map (mv y)).map encN).length)), (0, vP (pN l)), (1, vI y)] [(7, some (.pbox (encN (mv y l[i]!)))), (905, some (.hot 10 (((l.take (i)).map (mv y)).map encN)))] ⟨rfl, rfl, rfl, rfl, rfl, trivial⟩ ⟨bi_eq rfl (by rw [mv, mvB, if_pos (Or.inr (by assumption))]; rfl), rfl, trivial⟩) ⟨rfl, rfl⟩ | exact toQ.mk (Gh.weak [(7, vC (.ptr 7 0)), (6, vI ((i : Nat) : Int)), (5, vC (.hs 905 (((l.take (i)).map (mv y)).map encN).length)), (0, vP (pN l)), (1, vI y)] [(7, some (.pbox (encN (mv y l[i]!)))), (905, some (.hot 10 (((l.take (i)).map (mv y)).map encN)))] ⟨rfl, rfl, rfl, rfl, rfl, trivial⟩ ⟨bi_eq rfl (by rw [mv, mvB, if_neg (by omega)]), rfl, trivial⟩) ⟨rfl, rfl⟩
    ·  -- c20
      refine J.seq ?_
      refine J.region ?_
      first | refine R.fldPtr Tryd.underlying32 rfl Tryd.sizeOf3 rfl (GOk.no rfl) rfl rfl ?_ | refine R.fldAt Tryd.underlying32 rfl Tryd.sizeOf3 rfl (GOk.no rfl) rfl rfl ?_ | refine R.fldEl Tryd.underlying32 rfl Tryd.sizeOf3 rfl (GOk.no rfl) rfl rfl ?_
      first | refine R.ldP1 Tryd.isAgg3 (GOk.no rfl) rfl rfl rfl rfl ?_ | refine R.ldAt1 Tryd.isAgg3 (GOk.no rfl) rfl rfl rfl ?_ | refine R.ldB1 Tryd.isAgg3 (GOk.no rfl) rfl rfl rfl rfl ?_ | refine R.ldElM1 Tryd.isAgg3 (GOk.no rfl) rfl rfl rfl (by omega) rfl ?_
      refine R.geq (GOk.no rfl) rfl rfl rfl ?_
      refine Run.nil ⟨by kernel_rfl, ?_⟩
      refine J.cond rfl (fun hc4 => ?_) (fun hc4 => ?_)
      · try simp only [decide_eq_true_eq, decide_eq_false_iff_not, beq_iff_eq, beq_eq_false_iff_ne, bne_iff_ne, bne_eq_false_iff_eq, ne_eq, Bool.not_eq_true', Bool.not_eq_false', Decidable.not_not, Int.toNat_natCast] at hc4
        refine J.region ?_
        first | refine R.fldPtr Tryd.underlying32 rfl Tryd.sizeOf3 rfl (GOk.no rfl) rfl rfl ?_ | refine R.fldAt Tryd.underlying32 rfl Tryd.sizeOf3 rfl (GOk.no rfl) rfl rfl ?_ | refine R.fldEl Tryd.underlying32 rfl Tryd.sizeOf3 rfl (GOk.no rfl) rfl rfl ?_
        first | refine R.ldP1 Tryd.isAgg3 (GOk.no rfl) rfl rfl rfl rfl ?_ | refine R.ldAt1 Tryd.isAgg3 (GOk.no rfl) rfl rfl rfl ?_ | refine R.ldB1 Tryd.isAgg3 (GOk.no rfl) rfl rfl rfl rfl ?_ | refine R.ldElM1 Tryd.isAgg3 (GOk.no rfl) rfl rfl rfl (by omega) rfl ?_
        refine R.move (GOk.no rfl) rfl rfl ?_
        refine R.add (GOk.no rfl) rfl rfl rfl (hmi.1 (by assumption)) ?_
        first | refine R.fldPtr Tryd.underlying32 rfl Tryd.sizeOf3 rfl (GOk.no rfl) rfl rfl ?_ | refine R.fldAt Tryd.underlying32 rfl Tryd.sizeOf3 rfl (GOk.no rfl) rfl rfl ?_ | refine R.fldEl Tryd.underlying32 rfl Tryd.sizeOf3 rfl (GOk.no rfl) rfl rfl ?_
        first | refine R.stP Tryd.sizeOf3 (GOk.no rfl) rfl rfl rfl rfl rfl (Nat.le_of_ble_eq_true rfl) ?_ | refine R.stPB Tryd.sizeOf3 (GOk.no rfl) rfl rfl rfl rfl rfl ?_ | refine R.stB Tryd.sizeOf3 (GOk.no rfl) rfl rfl rfl rfl (Nat.le_of_ble_eq_true rfl) ?_
        refine Run.nil ⟨by kernel_rfl, ?_⟩
        first | exact toQ.mk (Gh.weak [(7, vC (.ptr 7 0)), (6, vI ((i : Nat) : Int)), (5, vC (.hs 905 (((l.take (i)).map (mv y)).map encN).length)), (0, vP (pN l)), (1, vI y)] [(7, some (.pbox (encN (mvA y l[i]!)))), (905, some (.hot 10 (((l.take (i)).map (mv y)).map encN)))] ⟨rfl, rfl, rfl, rfl, rfl, trivial⟩ ⟨bi_eq rfl (by rw [mvA, if_pos (by assumption)]; rfl), rfl, trivial⟩) ⟨rfl, rfl⟩ | exact toQ.mk (Gh.weak [(7, vC (.ptr 7 0)), (6, vI ((i : Nat) : Int)), (5, vC (.hs 905 (((l.take (i)).map (mv y)).map encN).length)), (0, vP (pN l)), (1, vI y)] [(7, some (.pbox (encN (mvA y l[i]!)))), (905, some (.hot 10 (((l.take (i)).map (mv y)).map encN)))] ⟨rfl, rfl, rfl, rfl, rfl, trivial⟩ ⟨bi_eq rfl (by rw [mvA, if_neg (by assumption)]; rfl), rfl, trivial⟩) ⟨rfl, rfl⟩
      · try simp only [decide_eq_true_eq, decide_eq_false_iff_not, beq_iff_eq, beq_eq_false_iff_ne, bne_iff_ne, bne_eq_false_iff_eq, ne_eq, Bool.not_eq_true', Bool.not_eq_false', Decidable.not_not, Int.toNat_natCast] at hc4
        refine J.skip ?_
        first | exact toQ.mk (Gh.weak [(7, vC (.ptr 7 0)), (6, vI ((i : Nat) : Int)), (5, vC (.hs 905 (((l.take (i)).map (mv y)).map encN).length)), (0, vP (pN l)), (1, vI y)] [(7, some (.pbox (encN (mvA y l[i]!)))), (905, some (.hot 10 (((l.take (i)).map (mv y)).map encN)))] ⟨rfl, rfl, rfl, rfl, rfl, trivial⟩ ⟨bi_eq rfl (by rw [mvA, if_pos (by assumption)]; rfl), rfl, trivial⟩) ⟨rfl, rfl⟩ | exact toQ.mk (Gh.weak [(7, vC (.ptr 7 0)), (6, vI ((i : Nat) : Int)), (5, vC (.hs 905 (((l.take (i)).map (mv y)).map encN).length)), (0, vP (pN l)), (1, vI y)] [(7, some (.pbox (encN (mvA y l[i]!)))), (905, some (.hot 10 (((l.take (i)).map (mv y)).map encN)))] ⟨rfl, rfl, rfl, rfl, rfl, trivial⟩ ⟨bi_eq rfl (by rw [mvA, if_neg (by assumption)]; rfl), rfl, trivial⟩) ⟨rfl, rfl⟩
  · try simp only [decide_eq_true_eq, decide_eq_false_iff_not, beq_iff_eq, beq_eq_false_iff_ne, bne_iff_ne, bne_eq_false_iff_eq, ne_eq, Bool.not_eq_true', Bool.not_eq_false', Decidable.not_not, Int.toNat_natCast] at hc1
    refine J.exit ?_
    refine J.seq ?_
    refine J.region ?_
    refine R.move (GOk.no rfl) rfl rfl ?_
    refine R.assign (GOk.no rfl) rfl rfl ?_
    refine Run.nil ⟨by kernel_rfl, ?_⟩
    refine J.ret ?_
    exact ⟨⟨by have e : i = l.length := (by omega); subst e; rw [List.take_length]; rfl, trivial⟩, fun κ o h => by obtain ⟨rfl, rfl⟩ := B1_fn h; have e : i = l.length := (by omega); subst e; rw [List.take_length]; rfl⟩
end Go.Sc
