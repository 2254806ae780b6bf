/-
  PrintDeep: the walks of Wrap and Pair. (Printed by a program of ours.)
-/
import Derived.Test.YtfaepfnjilgioaaDoorScP5
import Derived.Test.YtfaepfnjilgioaaDoorScA27
set_option linter.all false
set_option linter.unusedSimpArgs false
set_option linter.unusedVariables false
namespace Go.Sc
open Go Go.Proofs Go.Abs
set_option maxRecDepth 4000

theorem con_8 (kind lo hi : Int) (l : List Nd) (hl : l.length ≤ 1000000) (hm : ∀ x ∈ l, I64 x.a ∧ I64 x.b) : Con Tryd.prog 8 [sI kind, sI lo, sI hi, sD l] [] [sD (wrapL kind lo hi l)] [] [] := by
  refine con_of_J [] Tryd.func8 rfl rfl Tryd.ntmps8 rfl (Nat.le_of_ble_eq_true rfl) rfl rfl ?_
  refine J.seq ?_
  refine J.region ?_
  first | refine R.boxP rfl (GOk.no rfl) rfl rfl ?_ | refine R.boxA (GOk.no rfl) rfl rfl rfl ?_
  refine R.alloc _ (GOk.no rfl) rfl _ Tryd.zeroValue24 rfl rfl ?_
  refine Run.nil ⟨by kernel_rfl, ?_⟩
  refine J.seq ?_
  refine J.draw rfl ?_
  first | refine R.fldPtr Tryd.underlying24 rfl Tryd.sizeOf22 rfl (GOk.no rfl) rfl rfl ?_ | refine R.fldAt Tryd.underlying24 rfl Tryd.sizeOf22 rfl (GOk.no rfl) rfl rfl ?_ | refine R.fldEl Tryd.underlying24 rfl Tryd.sizeOf22 rfl (GOk.no rfl) rfl rfl ?_
  first | refine R.ldP1 Tryd.isAgg22 (GOk.no rfl) rfl rfl rfl rfl ?_ | refine R.ldAt1 Tryd.isAgg22 (GOk.no rfl) rfl rfl rfl ?_ | refine R.ldB1 Tryd.isAgg22 (GOk.no rfl) rfl rfl rfl rfl ?_ | refine R.ldElM1 Tryd.isAgg22 (GOk.no rfl) rfl rfl rfl (by omega) rfl ?_
  refine R.call0 [((.tmp 10), _), ((.const _), _)] false ((con_15 l 0 (by omega) (fun x hx => mvOk_zero (hm x hx))).ren (rn [(1000, 11)]) rfl) rfl (GOk.no rfl) (fun d h => by cases h; rfl) ⟨rfl, rfl, trivial⟩ trivial rfl (fun h => by cases h) ?_
  refine R.move (GOk.no rfl) rfl rfl ?_
  first | refine R.fldPtr Tryd.underlying24 rfl Tryd.sizeOf22 rfl (GOk.no rfl) rfl rfl ?_ | refine R.fldAt Tryd.underlying24 rfl Tryd.sizeOf22 rfl (GOk.no rfl) rfl rfl ?_ | refine R.fldEl Tryd.underlying24 rfl Tryd.sizeOf22 rfl (GOk.no rfl) rfl rfl ?_
  first | refine R.ldP1 Tryd.isAgg22 (GOk.no rfl) rfl rfl rfl rfl ?_ | refine R.ldAt1 Tryd.isAgg22 (GOk.no rfl) rfl rfl rfl ?_ | refine R.ldB1 Tryd.isAgg22 (GOk.no rfl) rfl rfl rfl rfl ?_ | refine R.ldElM1 Tryd.isAgg22 (GOk.no rfl) rfl rfl rfl (by omega) rfl ?_
  refine R.lenL Tryd.underlying22 (GOk.no rfl) rfl rfl ?_
  refine R.spell 15 rfl (show _ = vI (l.length : Int) from vI_eq (by rw [List.length_map])) ?_
  refine R.sub (GOk.no rfl) rfl rfl rfl ⟨by omega, by omega⟩ ?_
  refine R.move (GOk.no rfl) rfl rfl ?_
  refine R.move (GOk.no rfl) rfl rfl ?_
  first | refine R.buildP [(0, 0, (.tmp 12), _), (1, 1, (.tmp 16), _), (3, 3, (.tmp 17), _), (4, 4, (.tmp 18), _)] (GOk.no rfl) rfl ⟨rfl, rfl, rfl, rfl, trivial⟩ bt_32 rfl ⟨rfl, (Nat.le_of_ble_eq_true rfl), ⟨rfl, (Nat.le_of_ble_eq_true rfl), ⟨rfl, (Nat.le_of_ble_eq_true rfl), ⟨rfl, (Nat.le_of_ble_eq_true rfl), trivial⟩⟩⟩⟩ rfl ?_ | refine R.buildA [(0, 0, (.tmp 12), _), (1, 1, (.tmp 16), _), (3, 3, (.tmp 17), _), (4, 4, (.tmp 18), _)] (GOk.no rfl) rfl ⟨rfl, rfl, rfl, rfl, trivial⟩ bt_32 rfl ⟨rfl, (Nat.le_of_ble_eq_true rfl), ⟨rfl, (Nat.le_of_ble_eq_true rfl), ⟨rfl, (Nat.le_of_ble_eq_true rfl), ⟨rfl, (Nat.le_of_ble_eq_true rfl), trivial⟩⟩⟩⟩ rfl ?_
  refine R.litF [((.tmp 19), _)] (GOk.no rfl) rfl ⟨rfl, trivial⟩ Tryd.underlying22 Tryd.sizeOf32 Tryd.zeroValue32 rfl rfl rfl rfl ?_
  first | refine R.appH (bt := 88) Tryd.underlying22 Tryd.underlying22 Tryd.sizeOf32 Tryd.typeInfo32 rfl Tryd.zeroValue32 rfl (GOk.no rfl) rfl rfl rfl rfl rfl (by simp; omega) ?_ | refine R.appN (bt := 88) Tryd.underlying22 Tryd.underlying22 Tryd.sizeOf32 Tryd.typeInfo32 rfl Tryd.zeroValue32 rfl (GOk.no rfl) rfl rfl rfl (by simp) ?_
  first | refine R.buildP [(0, 0, (.tmp 21), _)] (GOk.no rfl) rfl ⟨rfl, trivial⟩ bt_24 rfl ⟨rfl, (Nat.le_of_ble_eq_true rfl), trivial⟩ rfl ?_ | refine R.buildA [(0, 0, (.tmp 21), _)] (GOk.no rfl) rfl ⟨rfl, trivial⟩ bt_24 rfl ⟨rfl, (Nat.le_of_ble_eq_true rfl), trivial⟩ rfl ?_
  first | refine R.stP Tryd.sizeOf24 (GOk.no rfl) rfl rfl rfl rfl rfl (Nat.le_of_ble_eq_true rfl) ?_ | refine R.stPB Tryd.sizeOf24 (GOk.no rfl) rfl rfl rfl rfl rfl ?_ | refine R.stB Tryd.sizeOf24 (GOk.no rfl) rfl rfl rfl rfl (Nat.le_of_ble_eq_true rfl) ?_
  refine Run.nil ⟨by kernel_rfl, ?_⟩
  refine J.gh (Gh.step ⟨[(21, 10, ((l.map (mv 0)).map encN) ++ [encN { (default : Nd) with kind := kind, a := (l.length : Int) - 1, lo := lo, hi := hi }])], [], []⟩ [(8, vC (.ptr 8 0))] [(8, some (.pbox [.sl 10 (((l.map (mv 0)).map encN) ++ [encN { (default : Nd) with kind := kind, a := (l.length : Int) - 1, lo := lo, hi := hi }])]))] ⟨rfl, trivial⟩ (by kernel_rfl) ⟨⟨_, rfl, Or.inl ⟨rfl, rfl⟩⟩, trivial⟩ ⟨⟨_, rfl, Or.inl ⟨_, rfl, ⟨Or.inr (Or.inr (Or.inl ⟨_, _, _, _, rfl, rfl, rfl, rfl⟩)), trivial⟩, rfl⟩⟩, trivial⟩ (by kernel_rfl) (by kernel_rfl)) ?_
  refine J.gh (Gh.weak [(8, vC (.ptr 8 0))] [(8, some (.pbox [pN (wrapL kind lo hi l)]))] ⟨rfl, trivial⟩ ⟨bi_eq rfl (by simp [pN, wrapL, mv_zeros]), trivial⟩) ?_
  refine J.ret ?_
  exact FinQ.of ⟨⟨_, _, rfl, Tryd.isAgg24, Tryd.sizeOf24, Or.inl ⟨_, rfl, rfl, rfl⟩⟩, trivial⟩ trivial
theorem con_9 (kind : Int) (l m : List Nd) (hl : l.length ≤ 1000000) (hl2 : m.length ≤ 1000000) (hm : ∀ x ∈ l, I64 x.a ∧ I64 x.b) (hm2 : ∀ x ∈ m, mvOk l.length x) : Con Tryd.prog 9 [sI kind, sD l, sD m] [] [sD (pairL kind l m)] [] [] := by
  refine con_of_J [] Tryd.func9 rfl rfl Tryd.ntmps9 rfl (Nat.le_of_ble_eq_true rfl) rfl rfl ?_
  refine J.seq ?_
  refine J.region ?_
  first | refine R.boxP rfl (GOk.no rfl) rfl rfl ?_ | refine R.boxA (GOk.no rfl) rfl rfl rfl ?_
  first | refine R.boxP rfl (GOk.no rfl) rfl rfl ?_ | refine R.boxA (GOk.no rfl) rfl rfl rfl ?_
  refine R.alloc _ (GOk.no rfl) rfl _ Tryd.zeroValue24 rfl rfl ?_
  refine Run.nil ⟨by kernel_rfl, ?_⟩
  refine J.seq ?_
  refine J.draw rfl ?_
  first | refine R.fldPtr Tryd.underlying24 rfl Tryd.sizeOf22 rfl (GOk.no rfl) rfl rfl ?_ | refine R.fldAt Tryd.underlying24 rfl Tryd.sizeOf22 rfl (GOk.no rfl) rfl rfl ?_ | refine R.fldEl Tryd.underlying24 rfl Tryd.sizeOf22 rfl (GOk.no rfl) rfl rfl ?_
  first | refine R.ldP1 Tryd.isAgg22 (GOk.no rfl) rfl rfl rfl rfl ?_ | refine R.ldAt1 Tryd.isAgg22 (GOk.no rfl) rfl rfl rfl ?_ | refine R.ldB1 Tryd.isAgg22 (GOk.no rfl) rfl rfl rfl rfl ?_ | refine R.ldElM1 Tryd.isAgg22 (GOk.no rfl) rfl rfl rfl (by omega) rfl ?_
  refine R.call0 [((.tmp 9), _), ((.const _), _)] false ((con_15 l 0 (by omega) (fun x hx => mvOk_zero (hm x hx))).ren (rn [(1000, 10)]) rfl) rfl (GOk.no rfl) (fun d h => by cases h; rfl) ⟨rfl, rfl, trivial⟩ trivial rfl (fun h => by cases h) ?_
  first | refine R.fldPtr Tryd.underlying24 rfl Tryd.sizeOf22 rfl (GOk.no rfl) rfl rfl ?_ | refine R.fldAt Tryd.underlying24 rfl Tryd.sizeOf22 rfl (GOk.no rfl) rfl rfl ?_ | refine R.fldEl Tryd.underlying24 rfl Tryd.sizeOf22 rfl (GOk.no rfl) rfl rfl ?_
  first | refine R.ldP1 Tryd.isAgg22 (GOk.no rfl) rfl rfl rfl rfl ?_ | refine R.ldAt1 Tryd.isAgg22 (GOk.no rfl) rfl rfl rfl ?_ | refine R.ldB1 Tryd.isAgg22 (GOk.no rfl) rfl rfl rfl rfl ?_ | refine R.ldElM1 Tryd.isAgg22 (GOk.no rfl) rfl rfl rfl (by omega) rfl ?_
  first | refine R.fldPtr Tryd.underlying24 rfl Tryd.sizeOf22 rfl (GOk.no rfl) rfl rfl ?_ | refine R.fldAt Tryd.underlying24 rfl Tryd.sizeOf22 rfl (GOk.no rfl) rfl rfl ?_ | refine R.fldEl Tryd.underlying24 rfl Tryd.sizeOf22 rfl (GOk.no rfl) rfl rfl ?_
  first | refine R.ldP1 Tryd.isAgg22 (GOk.no rfl) rfl rfl rfl rfl ?_ | refine R.ldAt1 Tryd.isAgg22 (GOk.no rfl) rfl rfl rfl ?_ | refine R.ldB1 Tryd.isAgg22 (GOk.no rfl) rfl rfl rfl rfl ?_ | refine R.ldElM1 Tryd.isAgg22 (GOk.no rfl) rfl rfl rfl (by omega) rfl ?_
  refine R.lenL Tryd.underlying22 (GOk.no rfl) rfl rfl ?_
  refine R.spell 15 rfl (show _ = vI (l.length : Int) from vI_eq (by rw [List.length_map])) ?_
  refine R.call [((.tmp 12), _), ((.tmp 15), _)] ((con_15 m l.length (by omega) hm2).frz rfl) rfl (GOk.no rfl) rfl ⟨rfl, rfl, trivial⟩ ?_
  first | refine R.appH (bt := 88) Tryd.underlying22 Tryd.underlying22 Tryd.sizeOf32 Tryd.typeInfo32 rfl Tryd.zeroValue32 rfl (GOk.no rfl) rfl rfl rfl rfl rfl (by simp; omega) ?_ | refine R.appN (bt := 88) Tryd.underlying22 Tryd.underlying22 Tryd.sizeOf32 Tryd.typeInfo32 rfl Tryd.zeroValue32 rfl (GOk.no rfl) rfl rfl rfl (by simp) ?_
  refine R.assign (GOk.no rfl) rfl rfl ?_
  refine Run.nil ⟨by kernel_rfl, ?_⟩
  refine J.seq ?_
  refine J.region ?_
  refine R.move (GOk.no rfl) rfl rfl ?_
  refine R.move (GOk.no rfl) rfl rfl ?_
  first | refine R.fldPtr Tryd.underlying24 rfl Tryd.sizeOf22 rfl (GOk.no rfl) rfl rfl ?_ | refine R.fldAt Tryd.underlying24 rfl Tryd.sizeOf22 rfl (GOk.no rfl) rfl rfl ?_ | refine R.fldEl Tryd.underlying24 rfl Tryd.sizeOf22 rfl (GOk.no rfl) rfl rfl ?_
  first | refine R.ldP1 Tryd.isAgg22 (GOk.no rfl) rfl rfl rfl rfl ?_ | refine R.ldAt1 Tryd.isAgg22 (GOk.no rfl) rfl rfl rfl ?_ | refine R.ldB1 Tryd.isAgg22 (GOk.no rfl) rfl rfl rfl rfl ?_ | refine R.ldElM1 Tryd.isAgg22 (GOk.no rfl) rfl rfl rfl (by omega) rfl ?_
  refine R.lenL Tryd.underlying22 (GOk.no rfl) rfl rfl ?_
  refine R.spell 22 rfl (show _ = vI (l.length : Int) from vI_eq (by rw [List.length_map])) ?_
  refine R.sub (GOk.no rfl) rfl rfl rfl ⟨by omega, by omega⟩ ?_
  first | refine R.fldPtr Tryd.underlying24 rfl Tryd.sizeOf22 rfl (GOk.no rfl) rfl rfl ?_ | refine R.fldAt Tryd.underlying24 rfl Tryd.sizeOf22 rfl (GOk.no rfl) rfl rfl ?_ | refine R.fldEl Tryd.underlying24 rfl Tryd.sizeOf22 rfl (GOk.no rfl) rfl rfl ?_
  first | refine R.ldP1 Tryd.isAgg22 (GOk.no rfl) rfl rfl rfl rfl ?_ | refine R.ldAt1 Tryd.isAgg22 (GOk.no rfl) rfl rfl rfl ?_ | refine R.ldB1 Tryd.isAgg22 (GOk.no rfl) rfl rfl rfl rfl ?_ | refine R.ldElM1 Tryd.isAgg22 (GOk.no rfl) rfl rfl rfl (by omega) rfl ?_
  refine R.lenL Tryd.underlying22 (GOk.no rfl) rfl rfl ?_
  refine R.spell 26 rfl (show _ = vI (l.length : Int) from vI_eq (by rw [List.length_map])) ?_
  first | refine R.fldPtr Tryd.underlying24 rfl Tryd.sizeOf22 rfl (GOk.no rfl) rfl rfl ?_ | refine R.fldAt Tryd.underlying24 rfl Tryd.sizeOf22 rfl (GOk.no rfl) rfl rfl ?_ | refine R.fldEl Tryd.underlying24 rfl Tryd.sizeOf22 rfl (GOk.no rfl) rfl rfl ?_
  first | refine R.ldP1 Tryd.isAgg22 (GOk.no rfl) rfl rfl rfl rfl ?_ | refine R.ldAt1 Tryd.isAgg22 (GOk.no rfl) rfl rfl rfl ?_ | refine R.ldB1 Tryd.isAgg22 (GOk.no rfl) rfl rfl rfl rfl ?_ | refine R.ldElM1 Tryd.isAgg22 (GOk.no rfl) rfl rfl rfl (by omega) rfl ?_
  refine R.lenL Tryd.underlying22 (GOk.no rfl) rfl rfl ?_
  refine R.spell 29 rfl (show _ = vI (m.length : Int) from vI_eq (by rw [List.length_map])) ?_
  refine R.add (GOk.no rfl) rfl rfl rfl ⟨by omega, by omega⟩ ?_
  refine R.sub (GOk.no rfl) rfl rfl rfl ⟨by omega, by omega⟩ ?_
  first | refine R.buildP [(0, 0, (.tmp 19), _), (1, 1, (.tmp 23), _), (2, 2, (.tmp 31), _)] (GOk.no rfl) rfl ⟨rfl, rfl, rfl, trivial⟩ bt_32 rfl ⟨rfl, (Nat.le_of_ble_eq_true rfl), ⟨rfl, (Nat.le_of_ble_eq_true rfl), ⟨rfl, (Nat.le_of_ble_eq_true rfl), trivial⟩⟩⟩ rfl ?_ | refine R.buildA [(0, 0, (.tmp 19), _), (1, 1, (.tmp 23), _), (2, 2, (.tmp 31), _)] (GOk.no rfl) rfl ⟨rfl, rfl, rfl, trivial⟩ bt_32 rfl ⟨rfl, (Nat.le_of_ble_eq_true rfl), ⟨rfl, (Nat.le_of_ble_eq_true rfl), ⟨rfl, (Nat.le_of_ble_eq_true rfl), trivial⟩⟩⟩ rfl ?_
  refine R.litF [((.tmp 32), _)] (GOk.no rfl) rfl ⟨rfl, trivial⟩ Tryd.underlying22 Tryd.sizeOf32 Tryd.zeroValue32 rfl rfl rfl rfl ?_
  first | refine R.appH (bt := 88) Tryd.underlying22 Tryd.underlying22 Tryd.sizeOf32 Tryd.typeInfo32 rfl Tryd.zeroValue32 rfl (GOk.no rfl) rfl rfl rfl rfl rfl (by simp; omega) ?_ | refine R.appN (bt := 88) Tryd.underlying22 Tryd.underlying22 Tryd.sizeOf32 Tryd.typeInfo32 rfl Tryd.zeroValue32 rfl (GOk.no rfl) rfl rfl rfl (by simp) ?_
  first | refine R.buildP [(0, 0, (.tmp 34), _)] (GOk.no rfl) rfl ⟨rfl, trivial⟩ bt_24 rfl ⟨rfl, (Nat.le_of_ble_eq_true rfl), trivial⟩ rfl ?_ | refine R.buildA [(0, 0, (.tmp 34), _)] (GOk.no rfl) rfl ⟨rfl, trivial⟩ bt_24 rfl ⟨rfl, (Nat.le_of_ble_eq_true rfl), trivial⟩ rfl ?_
  first | refine R.stP Tryd.sizeOf24 (GOk.no rfl) rfl rfl rfl rfl rfl (Nat.le_of_ble_eq_true rfl) ?_ | refine R.stPB Tryd.sizeOf24 (GOk.no rfl) rfl rfl rfl rfl rfl ?_ | refine R.stB Tryd.sizeOf24 (GOk.no rfl) rfl rfl rfl rfl (Nat.le_of_ble_eq_true rfl) ?_
  refine Run.nil ⟨by kernel_rfl, ?_⟩
  refine J.gh (Gh.step ⟨[(34, 10, ((l.map (mv 0)).map encN) ++ ((m.map (mv l.length)).map encN) ++ [encN { (default : Nd) with kind := kind, a := (l.length : Int) - 1, b := (l.length : Int) + m.length - 1 }])], [], []⟩ [(6, vC (.ptr 6 0))] [(6, some (.pbox [.sl 10 (((l.map (mv 0)).map encN) ++ ((m.map (mv l.length)).map encN) ++ [encN { (default : Nd) with kind := kind, a := (l.length : Int) - 1, b := (l.length : Int) + m.length - 1 }])]))] ⟨rfl, trivial⟩ (by kernel_rfl) ⟨⟨_, rfl, Or.inl ⟨rfl, rfl⟩⟩, trivial⟩ ⟨⟨_, rfl, Or.inl ⟨_, rfl, ⟨Or.inr (Or.inr (Or.inl ⟨_, _, _, _, rfl, rfl, rfl, rfl⟩)), trivial⟩, rfl⟩⟩, trivial⟩ (by kernel_rfl) (by kernel_rfl)) ?_
  refine J.gh (Gh.weak [(6, vC (.ptr 6 0))] [(6, some (.pbox [pN (pairL kind l m)]))] ⟨rfl, trivial⟩ ⟨bi_eq rfl (by simp [pN, pairL, mv_zeros]), trivial⟩) ?_
  refine J.ret ?_
  exact FinQ.of ⟨⟨_, _, rfl, Tryd.isAgg24, Tryd.sizeOf24, Or.inl ⟨_, rfl, rfl, rfl⟩⟩, trivial⟩ trivial
end Go.Sc
