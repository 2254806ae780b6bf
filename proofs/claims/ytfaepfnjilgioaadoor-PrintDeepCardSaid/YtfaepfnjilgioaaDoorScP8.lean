/-
  PrintDeep: the walks of Text, Deep, awake and the law. (Printed by a program of ours.)
-/
import Derived.Test.YtfaepfnjilgioaaDoorScB4
set_option linter.all false
set_option linter.unusedSimpArgs false
set_option linter.unusedVariables false
namespace Go.Sc
open Go Go.Proofs Go.Abs
set_option maxRecDepth 4000
variable {q m : Obj}

theorem con_7 (l : List Nd) (hl : l.length ≤ 1000000) (s : ByteArray) (x : Int) (hc : Con Tryd.prog 14 [sD l, sI ((l.length : Int) - 1), sI 0] (BBt q m) [sS s, sI x] (BBt q m) []) : Con Tryd.prog 7 [sD l] (BBt q m) [sI x] (BBt q m) [] := by
  refine con_of_J [] Tryd.func7 rfl rfl Tryd.ntmps7 rfl (Nat.le_of_ble_eq_true rfl) rfl rfl ?_
  refine J.seq ?_
  refine J.region ?_
  first | refine R.boxP rfl (GOk.no rfl) rfl rfl ?_ | refine R.boxA (GOk.no rfl) rfl rfl rfl ?_
  refine R.assign (GOk.no rfl) rfl rfl ?_
  refine Run.nil ⟨by kernel_rfl, ?_⟩
  refine J.seq ?_
  refine J.region ?_
  first | refine R.ldPA Tryd.isAgg24 Tryd.sizeOf24 (GOk.no rfl) rfl rfl rfl (Nat.le_of_ble_eq_true rfl) ?_ | refine R.ldAtA Tryd.isAgg24 Tryd.sizeOf24 (GOk.no rfl) rfl rfl (Nat.le_of_ble_eq_true rfl) ?_ | refine R.ldBA Tryd.isAgg24 Tryd.sizeOf24 (GOk.no rfl) rfl rfl rfl (Nat.le_of_ble_eq_true rfl) ?_ | refine R.ldElMA Tryd.isAgg24 Tryd.sizeOf24 (GOk.no rfl) rfl rfl rfl (by omega) (Nat.le_of_ble_eq_true rfl) ?_
  first | refine R.fldPtr Tryd.underlying24 rfl Tryd.sizeOf22 rfl (GOk.no rfl) rfl rfl ?_ | refine R.fldAt Tryd.underlying24 rfl Tryd.sizeOf22 rfl (GOk.no rfl) rfl rfl ?_ | refine R.fldEl Tryd.underlying24 rfl Tryd.sizeOf22 rfl (GOk.no rfl) rfl rfl ?_
  first | refine R.ldP1 Tryd.isAgg22 (GOk.no rfl) rfl rfl rfl rfl ?_ | refine R.ldAt1 Tryd.isAgg22 (GOk.no rfl) rfl rfl rfl ?_ | refine R.ldB1 Tryd.isAgg22 (GOk.no rfl) rfl rfl rfl rfl ?_ | refine R.ldElM1 Tryd.isAgg22 (GOk.no rfl) rfl rfl rfl (by omega) rfl ?_
  refine R.lenL Tryd.underlying22 (GOk.no rfl) rfl rfl ?_
  refine R.spell 9 rfl (show _ = vI (l.length : Int) from vI_eq (by rw [List.length_map])) ?_
  refine R.sub (GOk.no rfl) rfl rfl rfl ⟨by omega, by omega⟩ ?_
  refine R.call0 [((.tmp 6), _), ((.tmp 10), _), ((.const _), _)] true (hc) rfl (GOk.no rfl) (fun d h => by cases h; rfl) ⟨rfl, rfl, rfl, trivial⟩ ⟨rfl, rfl, trivial⟩ rfl (fun _ => ⟨rfl, rfl, trivial⟩) ?_
  refine R.move (GOk.no rfl) rfl rfl ?_
  refine R.extract (GOk.no rfl) rfl rfl rfl ?_
  refine R.extract (GOk.no rfl) rfl rfl rfl ?_
  refine R.assign (GOk.no rfl) rfl rfl ?_
  refine R.assign (GOk.no rfl) rfl rfl ?_
  refine Run.nil ⟨by kernel_rfl, ?_⟩
  refine J.seq ?_
  refine J.region ?_
  refine R.move (GOk.no rfl) rfl rfl ?_
  refine R.assign (GOk.no rfl) rfl rfl ?_
  refine Run.nil ⟨by kernel_rfl, ?_⟩
  refine J.ret ?_
  exact FinQ.of ⟨ret_eq rfl (rfl), trivial⟩ ⟨rfl, rfl, trivial⟩
theorem con_11 (l : List Nd) (hl : l.length ≤ 1000000) (s : ByteArray) (x : Int) (hc : Con Tryd.prog 14 [sD l, sI ((l.length : Int) - 1), sI 0] (BBt q m) [sS s, sI x] (BBt q m) []) : Con Tryd.prog 11 [sD l] (BBt q m) [sS s] (BBt q m) [] := by
  refine con_of_J [] Tryd.func11 rfl rfl Tryd.ntmps11 rfl (Nat.le_of_ble_eq_true rfl) rfl rfl ?_
  refine J.seq ?_
  refine J.region ?_
  first | refine R.boxP rfl (GOk.no rfl) rfl rfl ?_ | refine R.boxA (GOk.no rfl) rfl rfl rfl ?_
  refine R.assign (GOk.no rfl) rfl rfl ?_
  refine Run.nil ⟨by kernel_rfl, ?_⟩
  refine J.seq ?_
  refine J.region ?_
  first | refine R.ldPA Tryd.isAgg24 Tryd.sizeOf24 (GOk.no rfl) rfl rfl rfl (Nat.le_of_ble_eq_true rfl) ?_ | refine R.ldAtA Tryd.isAgg24 Tryd.sizeOf24 (GOk.no rfl) rfl rfl (Nat.le_of_ble_eq_true rfl) ?_ | refine R.ldBA Tryd.isAgg24 Tryd.sizeOf24 (GOk.no rfl) rfl rfl rfl (Nat.le_of_ble_eq_true rfl) ?_ | refine R.ldElMA Tryd.isAgg24 Tryd.sizeOf24 (GOk.no rfl) rfl rfl rfl (by omega) (Nat.le_of_ble_eq_true rfl) ?_
  first | refine R.fldPtr Tryd.underlying24 rfl Tryd.sizeOf22 rfl (GOk.no rfl) rfl rfl ?_ | refine R.fldAt Tryd.underlying24 rfl Tryd.sizeOf22 rfl (GOk.no rfl) rfl rfl ?_ | refine R.fldEl Tryd.underlying24 rfl Tryd.sizeOf22 rfl (GOk.no rfl) rfl rfl ?_
  first | refine R.ldP1 Tryd.isAgg22 (GOk.no rfl) rfl rfl rfl rfl ?_ | refine R.ldAt1 Tryd.isAgg22 (GOk.no rfl) rfl rfl rfl ?_ | refine R.ldB1 Tryd.isAgg22 (GOk.no rfl) rfl rfl rfl rfl ?_ | refine R.ldElM1 Tryd.isAgg22 (GOk.no rfl) rfl rfl rfl (by omega) rfl ?_
  refine R.lenL Tryd.underlying22 (GOk.no rfl) rfl rfl ?_
  refine R.spell 9 rfl (show _ = vI (l.length : Int) from vI_eq (by rw [List.length_map])) ?_
  refine R.sub (GOk.no rfl) rfl rfl rfl ⟨by omega, by omega⟩ ?_
  refine R.call0 [((.tmp 6), _), ((.tmp 10), _), ((.const _), _)] true (hc) rfl (GOk.no rfl) (fun d h => by cases h; rfl) ⟨rfl, rfl, rfl, trivial⟩ ⟨rfl, rfl, trivial⟩ rfl (fun _ => ⟨rfl, rfl, trivial⟩) ?_
  refine R.move (GOk.no rfl) rfl rfl ?_
  refine R.extract (GOk.no rfl) rfl rfl rfl ?_
  refine R.extract (GOk.no rfl) rfl rfl rfl ?_
  refine R.assign (GOk.no rfl) rfl rfl ?_
  refine R.assign (GOk.no rfl) rfl rfl ?_
  refine Run.nil ⟨by kernel_rfl, ?_⟩
  refine J.seq ?_
  refine J.region ?_
  refine R.move (GOk.no rfl) rfl rfl ?_
  refine R.assign (GOk.no rfl) rfl rfl ?_
  refine Run.nil ⟨by kernel_rfl, ?_⟩
  refine J.ret ?_
  exact FinQ.of ⟨ret_eq rfl (rfl), trivial⟩ ⟨rfl, rfl, trivial⟩

theorem con7T (t : Tree) (ht : t.ok) (hw : t.weight ≤ 50000000) (hn : t.size ≤ 1000000) : Con Tryd.prog 7 [sD (t.flat 0)] (BBt q m) [sI (t.text 0).2] (BBt q m) [] := con_7 _ (by rw [Tree.flat_len]; exact hn) _ _ (con14_all t ht hw hn)
theorem con11T (t : Tree) (ht : t.ok) (hw : t.weight ≤ 50000000) (hn : t.size ≤ 1000000) : Con Tryd.prog 11 [sD (t.flat 0)] (BBt q m) [sS (t.text 0).1] (BBt q m) [] := con_11 _ (by rw [Tree.flat_len]; exact hn) _ _ (con14_all t ht hw hn)
theorem con8F (t : Tree) (hn : t.size ≤ 1000000) : Con Tryd.prog 8 [sI 8, sI 0, sI 0, sD (t.flat 0)] [] [sD ((Tree.frame t).flat 0)] [] [] := by
  rw [← wrap_frame]; exact con_8 8 0 0 _ (by rw [Tree.flat_len]; exact hn) (flat_I64 t hn)
theorem con8S (t : Tree) (hn : t.size ≤ 1000000) : Con Tryd.prog 8 [sI 6, sI 0, sI 0, sD (t.flat 0)] [] [sD ((Tree.star t).flat 0)] [] [] := by
  rw [← wrap_star]; exact con_8 6 0 0 _ (by rw [Tree.flat_len]; exact hn) (flat_I64 t hn)
theorem con9O (t u : Tree) (hn : t.size ≤ 1000000) (hm : u.size ≤ 1000000) : Con Tryd.prog 9 [sI 5, sD (t.flat 0), sD (u.flat 0)] [] [sD ((Tree.orr t u).flat 0)] [] [] := by
  rw [← pair_or]; exact con_9 5 _ _ (by rw [Tree.flat_len]; exact hn) (by rw [Tree.flat_len]; exact hm) (flat_I64 t hn) (by rw [Tree.flat_len]; exact flat_mvOk u _ hn hm)
theorem con9S (t u : Tree) (hn : t.size ≤ 1000000) (hm : u.size ≤ 1000000) : Con Tryd.prog 9 [sI 4, sD (t.flat 0), sD (u.flat 0)] [] [sD ((Tree.seq t u).flat 0)] [] [] := by
  rw [← pair_seq]; exact con_9 4 _ _ (by rw [Tree.flat_len]; exact hn) (by rw [Tree.flat_len]; exact hm) (flat_I64 t hn) (by rw [Tree.flat_len]; exact flat_mvOk u _ hn hm)

def dotT : Tree := .byt (clsRow 0 255)
def orT : Tree := .orr dotT dotT
theorem eqS_of {a b : ByteArray} (h : a = b) : (a.toList == b.toList) = true := by subst h; simp

theorem con_4 : Con Tryd.prog 4 [] (BBt q m) [sB true] (BBt q m) [] := by
  refine con_of_J [] Tryd.func4 rfl rfl Tryd.ntmps4 rfl (Nat.le_of_ble_eq_true rfl) rfl rfl ?_
  refine J.seq ?_
  refine J.region ?_
  refine R.assign (GOk.no rfl) rfl rfl ?_
  refine Run.nil ⟨by kernel_rfl, ?_⟩
  refine J.seq ?_
  refine J.region ?_
  refine R.call [((.const _), _), ((.const _), _)] (con_10 0 255 (by omega) (by omega)) rfl (GOk.no rfl) rfl ⟨rfl, rfl, trivial⟩ ?_
  first | refine R.buildP [(0, 0, (.const _), _), (5, 5, (.tmp 5), _)] (GOk.no rfl) rfl ⟨rfl, rfl, trivial⟩ bt_32 rfl ⟨rfl, (Nat.le_of_ble_eq_true rfl), ⟨rfl, (Nat.le_of_ble_eq_true rfl), trivial⟩⟩ rfl ?_ | refine R.buildA [(0, 0, (.const _), _), (5, 5, (.tmp 5), _)] (GOk.no rfl) rfl ⟨rfl, rfl, trivial⟩ bt_32 rfl ⟨rfl, (Nat.le_of_ble_eq_true rfl), ⟨rfl, (Nat.le_of_ble_eq_true rfl), trivial⟩⟩ rfl ?_
  refine R.litF [((.tmp 6), _)] (GOk.no rfl) rfl ⟨rfl, trivial⟩ Tryd.underlying22 Tryd.sizeOf32 Tryd.zeroValue32 rfl rfl rfl rfl ?_
  refine R.buildP [(0, 0, (.tmp 7), _)] (GOk.no rfl) rfl ⟨rfl, trivial⟩ bt_24 rfl ⟨rfl, (Nat.le_of_ble_eq_true rfl), trivial⟩ rfl ?_
  refine R.spell 8 rfl (show _ = vA [pN (dotT.flat 0)] from rfl) ?_
  refine R.alloc _ (GOk.no rfl) rfl _ Tryd.zeroValue24 rfl rfl ?_
  first | refine R.stP Tryd.sizeOf24 (GOk.no rfl) rfl rfl rfl rfl rfl (Nat.le_of_ble_eq_true rfl) ?_ | refine R.stPB Tryd.sizeOf24 (GOk.no rfl) rfl rfl rfl rfl rfl ?_ | refine R.stB Tryd.sizeOf24 (GOk.no rfl) rfl rfl rfl rfl (Nat.le_of_ble_eq_true rfl) ?_
  refine Run.nil ⟨by kernel_rfl, ?_⟩
  refine J.seq ?_
  refine J.region ?_
  first | refine R.ldPA Tryd.isAgg24 Tryd.sizeOf24 (GOk.no rfl) rfl rfl rfl (Nat.le_of_ble_eq_true rfl) ?_ | refine R.ldAtA Tryd.isAgg24 Tryd.sizeOf24 (GOk.no rfl) rfl rfl (Nat.le_of_ble_eq_true rfl) ?_ | refine R.ldBA Tryd.isAgg24 Tryd.sizeOf24 (GOk.no rfl) rfl rfl rfl (Nat.le_of_ble_eq_true rfl) ?_ | refine R.ldElMA Tryd.isAgg24 Tryd.sizeOf24 (GOk.no rfl) rfl rfl rfl (by omega) (Nat.le_of_ble_eq_true rfl) ?_
  first | refine R.ldPA Tryd.isAgg24 Tryd.sizeOf24 (GOk.no rfl) rfl rfl rfl (Nat.le_of_ble_eq_true rfl) ?_ | refine R.ldAtA Tryd.isAgg24 Tryd.sizeOf24 (GOk.no rfl) rfl rfl (Nat.le_of_ble_eq_true rfl) ?_ | refine R.ldBA Tryd.isAgg24 Tryd.sizeOf24 (GOk.no rfl) rfl rfl rfl (Nat.le_of_ble_eq_true rfl) ?_ | refine R.ldElMA Tryd.isAgg24 Tryd.sizeOf24 (GOk.no rfl) rfl rfl rfl (by omega) (Nat.le_of_ble_eq_true rfl) ?_
  refine R.call [((.const _), _), ((.tmp 9), _), ((.tmp 10), _)] (con9O dotT dotT (by decide) (by decide)) rfl (GOk.no rfl) rfl ⟨rfl, rfl, rfl, trivial⟩ ?_
  refine R.alloc _ (GOk.no rfl) rfl _ Tryd.zeroValue24 rfl rfl ?_
  first | refine R.stP Tryd.sizeOf24 (GOk.no rfl) rfl rfl rfl rfl rfl (Nat.le_of_ble_eq_true rfl) ?_ | refine R.stPB Tryd.sizeOf24 (GOk.no rfl) rfl rfl rfl rfl rfl ?_ | refine R.stB Tryd.sizeOf24 (GOk.no rfl) rfl rfl rfl rfl (Nat.le_of_ble_eq_true rfl) ?_
  refine Run.nil ⟨by kernel_rfl, ?_⟩
  refine J.seq ?_
  refine J.region ?_
  first | refine R.ldPA Tryd.isAgg24 Tryd.sizeOf24 (GOk.no rfl) rfl rfl rfl (Nat.le_of_ble_eq_true rfl) ?_ | refine R.ldAtA Tryd.isAgg24 Tryd.sizeOf24 (GOk.no rfl) rfl rfl (Nat.le_of_ble_eq_true rfl) ?_ | refine R.ldBA Tryd.isAgg24 Tryd.sizeOf24 (GOk.no rfl) rfl rfl rfl (Nat.le_of_ble_eq_true rfl) ?_ | refine R.ldElMA Tryd.isAgg24 Tryd.sizeOf24 (GOk.no rfl) rfl rfl rfl (by omega) (Nat.le_of_ble_eq_true rfl) ?_
  refine R.call [((.const _), _), ((.const _), _), ((.const _), _), ((.tmp 12), _)] (con8S orT (by decide)) rfl (GOk.no rfl) rfl ⟨rfl, rfl, rfl, rfl, trivial⟩ ?_
  refine R.alloc _ (GOk.no rfl) rfl _ Tryd.zeroValue24 rfl rfl ?_
  first | refine R.stP Tryd.sizeOf24 (GOk.no rfl) rfl rfl rfl rfl rfl (Nat.le_of_ble_eq_true rfl) ?_ | refine R.stPB Tryd.sizeOf24 (GOk.no rfl) rfl rfl rfl rfl rfl ?_ | refine R.stB Tryd.sizeOf24 (GOk.no rfl) rfl rfl rfl rfl (Nat.le_of_ble_eq_true rfl) ?_
  refine Run.nil ⟨by kernel_rfl, ?_⟩
  refine J.seq ?_
  refine J.region ?_
  first | refine R.ldPA Tryd.isAgg24 Tryd.sizeOf24 (GOk.no rfl) rfl rfl rfl (Nat.le_of_ble_eq_true rfl) ?_ | refine R.ldAtA Tryd.isAgg24 Tryd.sizeOf24 (GOk.no rfl) rfl rfl (Nat.le_of_ble_eq_true rfl) ?_ | refine R.ldBA Tryd.isAgg24 Tryd.sizeOf24 (GOk.no rfl) rfl rfl rfl (Nat.le_of_ble_eq_true rfl) ?_ | refine R.ldElMA Tryd.isAgg24 Tryd.sizeOf24 (GOk.no rfl) rfl rfl rfl (by omega) (Nat.le_of_ble_eq_true rfl) ?_
  refine R.call [((.const _), _), ((.const _), _), ((.const _), _), ((.tmp 14), _)] (con8F (.star orT) (by decide)) rfl (GOk.no rfl) rfl ⟨rfl, rfl, rfl, rfl, trivial⟩ ?_
  refine R.alloc _ (GOk.no rfl) rfl _ Tryd.zeroValue24 rfl rfl ?_
  first | refine R.stP Tryd.sizeOf24 (GOk.no rfl) rfl rfl rfl rfl rfl (Nat.le_of_ble_eq_true rfl) ?_ | refine R.stPB Tryd.sizeOf24 (GOk.no rfl) rfl rfl rfl rfl rfl ?_ | refine R.stB Tryd.sizeOf24 (GOk.no rfl) rfl rfl rfl rfl (Nat.le_of_ble_eq_true rfl) ?_
  refine Run.nil ⟨by kernel_rfl, ?_⟩
  refine J.seq ?_
  refine J.region ?_
  first | refine R.ldPA Tryd.isAgg24 Tryd.sizeOf24 (GOk.no rfl) rfl rfl rfl (Nat.le_of_ble_eq_true rfl) ?_ | refine R.ldAtA Tryd.isAgg24 Tryd.sizeOf24 (GOk.no rfl) rfl rfl (Nat.le_of_ble_eq_true rfl) ?_ | refine R.ldBA Tryd.isAgg24 Tryd.sizeOf24 (GOk.no rfl) rfl rfl rfl (Nat.le_of_ble_eq_true rfl) ?_ | refine R.ldElMA Tryd.isAgg24 Tryd.sizeOf24 (GOk.no rfl) rfl rfl rfl (by omega) (Nat.le_of_ble_eq_true rfl) ?_
  refine R.call0 [((.tmp 16), _)] true (con11T (.star orT) (by first | exact trivial | exact ⟨trivial, trivial⟩) (Nat.le_of_ble_eq_true (by kernel_rfl)) (Nat.le_of_ble_eq_true (by kernel_rfl))) rfl (GOk.no rfl) (fun d h => by cases h; rfl) ⟨rfl, trivial⟩ ⟨rfl, rfl, trivial⟩ rfl (fun _ => ⟨rfl, rfl, trivial⟩) ?_
  refine R.eqlS (GOk.no rfl) rfl rfl rfl ?_
  refine R.spell 18 rfl (show _ = vB true from vB_eq (eqS_of (by kernel_rfl))) ?_
  refine R.move (GOk.no rfl) rfl rfl ?_
  first | refine R.ldPA Tryd.isAgg24 Tryd.sizeOf24 (GOk.of rfl rfl rfl _ rfl) rfl rfl rfl (Nat.le_of_ble_eq_true rfl) ?_ | refine R.ldAtA Tryd.isAgg24 Tryd.sizeOf24 (GOk.of rfl rfl rfl _ rfl) rfl rfl (Nat.le_of_ble_eq_true rfl) ?_ | refine R.ldBA Tryd.isAgg24 Tryd.sizeOf24 (GOk.of rfl rfl rfl _ rfl) rfl rfl rfl (Nat.le_of_ble_eq_true rfl) ?_ | refine R.ldElMA Tryd.isAgg24 Tryd.sizeOf24 (GOk.of rfl rfl rfl _ rfl) rfl rfl rfl (by omega) (Nat.le_of_ble_eq_true rfl) ?_
  refine R.call0 [((.tmp 20), _)] true (con7T (.star orT) (by first | exact trivial | exact ⟨trivial, trivial⟩) (Nat.le_of_ble_eq_true (by kernel_rfl)) (Nat.le_of_ble_eq_true (by kernel_rfl))) rfl (GOk.of rfl rfl rfl _ rfl) (fun d h => by cases h; rfl) ⟨rfl, trivial⟩ ⟨rfl, rfl, trivial⟩ rfl (fun _ => ⟨rfl, rfl, trivial⟩) ?_
  refine R.eql (GOk.of rfl rfl rfl _ rfl) rfl rfl rfl ?_
  refine R.spell 22 rfl (show _ = vB true from vB_eq (by kernel_rfl)) ?_
  first | refine R.pickT (GOk.no rfl) rfl rfl rfl ?_ | refine R.pickF (GOk.no rfl) rfl rfl rfl ?_
  refine R.move (GOk.no rfl) rfl rfl ?_
  first | refine R.ldPA Tryd.isAgg24 Tryd.sizeOf24 (GOk.of rfl rfl rfl _ rfl) rfl rfl rfl (Nat.le_of_ble_eq_true rfl) ?_ | refine R.ldAtA Tryd.isAgg24 Tryd.sizeOf24 (GOk.of rfl rfl rfl _ rfl) rfl rfl (Nat.le_of_ble_eq_true rfl) ?_ | refine R.ldBA Tryd.isAgg24 Tryd.sizeOf24 (GOk.of rfl rfl rfl _ rfl) rfl rfl rfl (Nat.le_of_ble_eq_true rfl) ?_ | refine R.ldElMA Tryd.isAgg24 Tryd.sizeOf24 (GOk.of rfl rfl rfl _ rfl) rfl rfl rfl (by omega) (Nat.le_of_ble_eq_true rfl) ?_
  refine R.call0 [((.tmp 25), _)] true (con11T (.frame (.star orT)) (by first | exact trivial | exact ⟨trivial, trivial⟩) (Nat.le_of_ble_eq_true (by kernel_rfl)) (Nat.le_of_ble_eq_true (by kernel_rfl))) rfl (GOk.of rfl rfl rfl _ rfl) (fun d h => by cases h; rfl) ⟨rfl, trivial⟩ ⟨rfl, rfl, trivial⟩ rfl (fun _ => ⟨rfl, rfl, trivial⟩) ?_
  refine R.eqlS (GOk.of rfl rfl rfl _ rfl) rfl rfl rfl ?_
  refine R.spell 27 rfl (show _ = vB true from vB_eq (eqS_of (by kernel_rfl))) ?_
  first | refine R.pickT (GOk.no rfl) rfl rfl rfl ?_ | refine R.pickF (GOk.no rfl) rfl rfl rfl ?_
  refine R.move (GOk.no rfl) rfl rfl ?_
  first | refine R.ldPA Tryd.isAgg24 Tryd.sizeOf24 (GOk.of rfl rfl rfl _ rfl) rfl rfl rfl (Nat.le_of_ble_eq_true rfl) ?_ | refine R.ldAtA Tryd.isAgg24 Tryd.sizeOf24 (GOk.of rfl rfl rfl _ rfl) rfl rfl (Nat.le_of_ble_eq_true rfl) ?_ | refine R.ldBA Tryd.isAgg24 Tryd.sizeOf24 (GOk.of rfl rfl rfl _ rfl) rfl rfl rfl (Nat.le_of_ble_eq_true rfl) ?_ | refine R.ldElMA Tryd.isAgg24 Tryd.sizeOf24 (GOk.of rfl rfl rfl _ rfl) rfl rfl rfl (by omega) (Nat.le_of_ble_eq_true rfl) ?_
  refine R.call0 [((.tmp 30), _)] true (con7T (.frame (.star orT)) (by first | exact trivial | exact ⟨trivial, trivial⟩) (Nat.le_of_ble_eq_true (by kernel_rfl)) (Nat.le_of_ble_eq_true (by kernel_rfl))) rfl (GOk.of rfl rfl rfl _ rfl) (fun d h => by cases h; rfl) ⟨rfl, trivial⟩ ⟨rfl, rfl, trivial⟩ rfl (fun _ => ⟨rfl, rfl, trivial⟩) ?_
  refine R.eql (GOk.of rfl rfl rfl _ rfl) rfl rfl rfl ?_
  refine R.spell 32 rfl (show _ = vB true from vB_eq (by kernel_rfl)) ?_
  first | refine R.pickT (GOk.no rfl) rfl rfl rfl ?_ | refine R.pickF (GOk.no rfl) rfl rfl rfl ?_
  refine R.move (GOk.no rfl) rfl rfl ?_
  refine R.call [((.const _), _), ((.const _), _)] (con_10 97 98 (by omega) (by omega)) rfl (GOk.of rfl rfl rfl _ rfl) rfl ⟨rfl, rfl, trivial⟩ ?_
  refine R.call [((.tmp 35), _)] (con_12 (clsRow 97 98)) rfl (GOk.of rfl rfl rfl _ rfl) rfl ⟨rfl, trivial⟩ ?_
  refine R.eqlS (GOk.of rfl rfl rfl _ rfl) rfl rfl rfl ?_
  refine R.spell 37 rfl (show _ = vB true from vB_eq (eqS_of (by kernel_rfl))) ?_
  first | refine R.pickT (GOk.no rfl) rfl rfl rfl ?_ | refine R.pickF (GOk.no rfl) rfl rfl rfl ?_
  refine R.move (GOk.no rfl) rfl rfl ?_
  refine R.buildP [] (GOk.of rfl rfl rfl _ rfl) rfl trivial bt_30 rfl trivial rfl ?_
  refine R.spell 40 rfl (show _ = vA (encC ⟨0, 0, 0, 0⟩) from rfl) ?_
  refine R.call [((.tmp 40), _)] (con_12 ⟨0, 0, 0, 0⟩) rfl (GOk.of rfl rfl rfl _ rfl) rfl ⟨rfl, trivial⟩ ?_
  refine R.eqlS (GOk.of rfl rfl rfl _ rfl) rfl rfl rfl ?_
  refine R.spell 42 rfl (show _ = vB true from vB_eq (eqS_of (by kernel_rfl))) ?_
  first | refine R.pickT (GOk.no rfl) rfl rfl rfl ?_ | refine R.pickF (GOk.no rfl) rfl rfl rfl ?_
  refine R.move (GOk.no rfl) rfl rfl ?_
  refine R.buildP [(0, 0, (.const _), _)] (GOk.of rfl rfl rfl _ rfl) rfl ⟨rfl, trivial⟩ bt_30 rfl ⟨rfl, (Nat.le_of_ble_eq_true rfl), trivial⟩ rfl ?_
  refine R.spell 45 rfl (show _ = vA (encC ⟨5, 0, 0, 0⟩) from rfl) ?_
  refine R.call [((.tmp 45), _)] (con_12 ⟨5, 0, 0, 0⟩) rfl (GOk.of rfl rfl rfl _ rfl) rfl ⟨rfl, trivial⟩ ?_
  refine R.eqlS (GOk.of rfl rfl rfl _ rfl) rfl rfl rfl ?_
  refine R.spell 47 rfl (show _ = vB true from vB_eq (eqS_of (by kernel_rfl))) ?_
  first | refine R.pickT (GOk.no rfl) rfl rfl rfl ?_ | refine R.pickF (GOk.no rfl) rfl rfl rfl ?_
  refine R.move (GOk.no rfl) rfl rfl ?_
  first | refine R.ldPA Tryd.isAgg24 Tryd.sizeOf24 (GOk.of rfl rfl rfl _ rfl) rfl rfl rfl (Nat.le_of_ble_eq_true rfl) ?_ | refine R.ldAtA Tryd.isAgg24 Tryd.sizeOf24 (GOk.of rfl rfl rfl _ rfl) rfl rfl (Nat.le_of_ble_eq_true rfl) ?_ | refine R.ldBA Tryd.isAgg24 Tryd.sizeOf24 (GOk.of rfl rfl rfl _ rfl) rfl rfl rfl (Nat.le_of_ble_eq_true rfl) ?_ | refine R.ldElMA Tryd.isAgg24 Tryd.sizeOf24 (GOk.of rfl rfl rfl _ rfl) rfl rfl rfl (by omega) (Nat.le_of_ble_eq_true rfl) ?_
  refine R.call0 [((.tmp 50), _)] true (con7T dotT (by first | exact trivial | exact ⟨trivial, trivial⟩) (Nat.le_of_ble_eq_true (by kernel_rfl)) (Nat.le_of_ble_eq_true (by kernel_rfl))) rfl (GOk.of rfl rfl rfl _ rfl) (fun d h => by cases h; rfl) ⟨rfl, trivial⟩ ⟨rfl, rfl, trivial⟩ rfl (fun _ => ⟨rfl, rfl, trivial⟩) ?_
  refine R.eql (GOk.of rfl rfl rfl _ rfl) rfl rfl rfl ?_
  refine R.spell 52 rfl (show _ = vB true from vB_eq (by kernel_rfl)) ?_
  first | refine R.pickT (GOk.no rfl) rfl rfl rfl ?_ | refine R.pickF (GOk.no rfl) rfl rfl rfl ?_
  refine R.assign (GOk.no rfl) rfl rfl ?_
  refine Run.nil ⟨by kernel_rfl, ?_⟩
  refine J.ret ?_
  exact FinQ.of ⟨ret_eq rfl (rfl), trivial⟩ ⟨rfl, rfl, trivial⟩
end Go.Sc
