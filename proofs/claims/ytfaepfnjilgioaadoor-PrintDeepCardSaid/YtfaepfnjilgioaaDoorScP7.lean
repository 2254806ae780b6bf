/-
  PrintDeep: the walks of print.text and its closures. (Printed by a program of ours.)
-/
import Derived.Test.YtfaepfnjilgioaaDoorScP6
import Derived.Test.YtfaepfnjilgioaaDoorScB2
set_option linter.all false
set_option linter.unusedSimpArgs false
set_option linter.unusedVariables false
namespace Go.Sc
open Go Go.Proofs Go.Abs
set_option maxRecDepth 4000

theorem addOk {n : Nat} (h : n ≤ 4000000000) : (n : Int) ≤ IntKind.i64.max := by show _ ≤ (9223372036854775807 : Int); omega
/-- the map of levels -/
def lvO (m : Obj) : AO := .gmap 0 [(.int .i64 4, sI 1), (.int .i64 5, sI 0), (.int .i64 6, sI 2), (.int .i64 7, sI 2)] m
variable {q m : Obj}

theorem con_22 (l : List Nd) (n : Nd) (level : Int) (front back s : ByteArray) (x : Int) (hc : Con Tryd.prog 14 [sD l, sI n.a, sI level] [(2000, some (lvO m)), (2002, some (pow10 q))] [sS s, sI x] [(2000, some (lvO m)), (2002, some (pow10 q))] []) (hs : front.size + s.size + back.size ≤ 1000000000) :
    Con Tryd.prog 22 [sI level, sS front, sS back, .one (.ptr 1003 0), .one (.ptr 1008 0)] [(1003, some (.pbox [pN l])), (1008, some (.pbox (encN n))), (2000, some (lvO m)), (2002, some (pow10 q))] [sS (front ++ s ++ back), sI x] [(1003, some (.pbox [pN l])), (1008, some (.pbox (encN n))), (2000, some (lvO m)), (2002, some (pow10 q))] [] := by
  refine con_of_J [] Tryd.func22 rfl rfl Tryd.ntmps22 rfl (Nat.le_of_ble_eq_true rfl) rfl rfl ?_
  refine J.seq ?_
  refine J.region ?_
  refine R.assign (GOk.no rfl) rfl rfl ?_
  refine R.assign (GOk.no rfl) rfl rfl ?_
  refine Run.nil ⟨by kernel_rfl, ?_⟩
  refine J.seq ?_
  refine J.region ?_
  first | refine R.ldPA Tryd.isAgg24 Tryd.sizeOf24 (GOk.no rfl) rfl rfl rfl (Nat.le_of_ble_eq_true rfl) ?_ | refine R.ldAtA Tryd.isAgg24 Tryd.sizeOf24 (GOk.no rfl) rfl rfl (Nat.le_of_ble_eq_true rfl) ?_ | refine R.ldBA Tryd.isAgg24 Tryd.sizeOf24 (GOk.no rfl) rfl rfl rfl (Nat.le_of_ble_eq_true rfl) ?_ | refine R.ldElMA Tryd.isAgg24 Tryd.sizeOf24 (GOk.no rfl) rfl rfl rfl (by omega) (Nat.le_of_ble_eq_true rfl) ?_
  first | refine R.fldPtr Tryd.underlying32 rfl Tryd.sizeOf3 rfl (GOk.no rfl) rfl rfl ?_ | refine R.fldAt Tryd.underlying32 rfl Tryd.sizeOf3 rfl (GOk.no rfl) rfl rfl ?_ | refine R.fldEl Tryd.underlying32 rfl Tryd.sizeOf3 rfl (GOk.no rfl) rfl rfl ?_
  first | refine R.ldP1 Tryd.isAgg3 (GOk.no rfl) rfl rfl rfl rfl ?_ | refine R.ldAt1 Tryd.isAgg3 (GOk.no rfl) rfl rfl rfl ?_ | refine R.ldB1 Tryd.isAgg3 (GOk.no rfl) rfl rfl rfl rfl ?_ | refine R.ldElM1 Tryd.isAgg3 (GOk.no rfl) rfl rfl rfl (by omega) rfl ?_
  refine R.move (GOk.no rfl) rfl rfl ?_
  refine R.call0 [((.tmp 13), _), ((.tmp 15), _), ((.tmp 16), _)] true (hc) rfl (GOk.no rfl) (fun d h => by cases h; rfl) ⟨rfl, rfl, rfl, trivial⟩ ⟨rfl, rfl, trivial⟩ rfl (fun _ => ⟨rfl, rfl, trivial⟩) ?_
  refine R.move (GOk.no rfl) rfl rfl ?_
  refine R.extract (GOk.no rfl) rfl rfl rfl ?_
  refine R.extract (GOk.no rfl) rfl rfl rfl ?_
  refine R.assign (GOk.no rfl) rfl rfl ?_
  refine R.assign (GOk.no rfl) rfl rfl ?_
  refine Run.nil ⟨by kernel_rfl, ?_⟩
  refine J.seq ?_
  refine J.region ?_
  refine R.move (GOk.no rfl) rfl rfl ?_
  refine R.move (GOk.no rfl) rfl rfl ?_
  refine R.addS (GOk.no rfl) rfl rfl rfl (addOk (by first | omega | (simp only [ByteArray.size_append]; omega))) ?_
  refine R.move (GOk.no rfl) rfl rfl ?_
  refine R.addS (GOk.no rfl) rfl rfl rfl (addOk (by first | omega | (simp only [ByteArray.size_append]; omega))) ?_
  refine R.move (GOk.no rfl) rfl rfl ?_
  refine R.assign (GOk.no rfl) rfl rfl ?_
  refine R.assign (GOk.no rfl) rfl rfl ?_
  refine Run.nil ⟨by kernel_rfl, ?_⟩
  refine J.ret ?_
  exact FinQ.of ⟨ret_eq rfl (rfl), ret_eq rfl (rfl), trivial⟩ ⟨rfl, rfl, rfl, rfl, trivial⟩
theorem con_23 (l : List Nd) (n : Nd) (level : Int) (mid s s2 : ByteArray) (x y : Int) (hc : Con Tryd.prog 14 [sD l, sI n.a, sI level] [(2000, some (lvO m)), (2002, some (pow10 q))] [sS s, sI x] [(2000, some (lvO m)), (2002, some (pow10 q))] []) (hc2 : Con Tryd.prog 14 [sD l, sI n.b, sI (level + 1)] [(2000, some (lvO m)), (2002, some (pow10 q))] [sS s2, sI y] [(2000, some (lvO m)), (2002, some (pow10 q))] []) (hlev : 0 ≤ level ∧ level ≤ 3) (hs : s.size + mid.size + s2.size ≤ 1000000000) :
    Con Tryd.prog 23 [sI level, sS mid, .one (.ptr 1003 0), .one (.ptr 1008 0)] [(1003, some (.pbox [pN l])), (1008, some (.pbox (encN n))), (2000, some (lvO m)), (2002, some (pow10 q))] [sS (s ++ mid ++ s2), sI (maxI x y)] [(1003, some (.pbox [pN l])), (1008, some (.pbox (encN n))), (2000, some (lvO m)), (2002, some (pow10 q))] [] := by
  refine con_of_J [] Tryd.func23 rfl rfl Tryd.ntmps23 rfl (Nat.le_of_ble_eq_true rfl) rfl rfl ?_
  refine J.seq ?_
  refine J.region ?_
  refine R.assign (GOk.no rfl) rfl rfl ?_
  refine R.assign (GOk.no rfl) rfl rfl ?_
  refine Run.nil ⟨by kernel_rfl, ?_⟩
  refine J.seq ?_
  refine J.region ?_
  first | refine R.ldPA Tryd.isAgg24 Tryd.sizeOf24 (GOk.no rfl) rfl rfl rfl (Nat.le_of_ble_eq_true rfl) ?_ | refine R.ldAtA Tryd.isAgg24 Tryd.sizeOf24 (GOk.no rfl) rfl rfl (Nat.le_of_ble_eq_true rfl) ?_ | refine R.ldBA Tryd.isAgg24 Tryd.sizeOf24 (GOk.no rfl) rfl rfl rfl (Nat.le_of_ble_eq_true rfl) ?_ | refine R.ldElMA Tryd.isAgg24 Tryd.sizeOf24 (GOk.no rfl) rfl rfl rfl (by omega) (Nat.le_of_ble_eq_true rfl) ?_
  first | refine R.fldPtr Tryd.underlying32 rfl Tryd.sizeOf3 rfl (GOk.no rfl) rfl rfl ?_ | refine R.fldAt Tryd.underlying32 rfl Tryd.sizeOf3 rfl (GOk.no rfl) rfl rfl ?_ | refine R.fldEl Tryd.underlying32 rfl Tryd.sizeOf3 rfl (GOk.no rfl) rfl rfl ?_
  first | refine R.ldP1 Tryd.isAgg3 (GOk.no rfl) rfl rfl rfl rfl ?_ | refine R.ldAt1 Tryd.isAgg3 (GOk.no rfl) rfl rfl rfl ?_ | refine R.ldB1 Tryd.isAgg3 (GOk.no rfl) rfl rfl rfl rfl ?_ | refine R.ldElM1 Tryd.isAgg3 (GOk.no rfl) rfl rfl rfl (by omega) rfl ?_
  refine R.move (GOk.no rfl) rfl rfl ?_
  refine R.call0 [((.tmp 13), _), ((.tmp 15), _), ((.tmp 16), _)] true (hc) rfl (GOk.no rfl) (fun d h => by cases h; rfl) ⟨rfl, rfl, rfl, trivial⟩ ⟨rfl, rfl, trivial⟩ rfl (fun _ => ⟨rfl, rfl, trivial⟩) ?_
  refine R.move (GOk.no rfl) rfl rfl ?_
  refine R.extract (GOk.no rfl) rfl rfl rfl ?_
  refine R.extract (GOk.no rfl) rfl rfl rfl ?_
  refine R.assign (GOk.no rfl) rfl rfl ?_
  refine R.assign (GOk.no rfl) rfl rfl ?_
  refine Run.nil ⟨by kernel_rfl, ?_⟩
  refine J.seq ?_
  refine J.region ?_
  first | refine R.ldPA Tryd.isAgg24 Tryd.sizeOf24 (GOk.no rfl) rfl rfl rfl (Nat.le_of_ble_eq_true rfl) ?_ | refine R.ldAtA Tryd.isAgg24 Tryd.sizeOf24 (GOk.no rfl) rfl rfl (Nat.le_of_ble_eq_true rfl) ?_ | refine R.ldBA Tryd.isAgg24 Tryd.sizeOf24 (GOk.no rfl) rfl rfl rfl (Nat.le_of_ble_eq_true rfl) ?_ | refine R.ldElMA Tryd.isAgg24 Tryd.sizeOf24 (GOk.no rfl) rfl rfl rfl (by omega) (Nat.le_of_ble_eq_true rfl) ?_
  first | refine R.fldPtr Tryd.underlying32 rfl Tryd.sizeOf3 rfl (GOk.no rfl) rfl rfl ?_ | refine R.fldAt Tryd.underlying32 rfl Tryd.sizeOf3 rfl (GOk.no rfl) rfl rfl ?_ | refine R.fldEl Tryd.underlying32 rfl Tryd.sizeOf3 rfl (GOk.no rfl) rfl rfl ?_
  first | refine R.ldP1 Tryd.isAgg3 (GOk.no rfl) rfl rfl rfl rfl ?_ | refine R.ldAt1 Tryd.isAgg3 (GOk.no rfl) rfl rfl rfl ?_ | refine R.ldB1 Tryd.isAgg3 (GOk.no rfl) rfl rfl rfl rfl ?_ | refine R.ldElM1 Tryd.isAgg3 (GOk.no rfl) rfl rfl rfl (by omega) rfl ?_
  refine R.move (GOk.no rfl) rfl rfl ?_
  refine R.add (GOk.no rfl) rfl rfl rfl ⟨by omega, by omega⟩ ?_
  refine R.call0 [((.tmp 21), _), ((.tmp 23), _), ((.tmp 25), _)] true (hc2) rfl (GOk.no rfl) (fun d h => by cases h; rfl) ⟨rfl, rfl, rfl, trivial⟩ ⟨rfl, rfl, trivial⟩ rfl (fun _ => ⟨rfl, rfl, trivial⟩) ?_
  refine R.move (GOk.no rfl) rfl rfl ?_
  refine R.extract (GOk.no rfl) rfl rfl rfl ?_
  refine R.extract (GOk.no rfl) rfl rfl rfl ?_
  refine R.assign (GOk.no rfl) rfl rfl ?_
  refine R.assign (GOk.no rfl) rfl rfl ?_
  refine Run.nil ⟨by kernel_rfl, ?_⟩
  refine J.seq ?_
  refine J.region ?_
  refine R.move (GOk.no rfl) rfl rfl ?_
  refine R.move (GOk.no rfl) rfl rfl ?_
  refine R.addS (GOk.no rfl) rfl rfl rfl (addOk (by first | omega | (simp only [ByteArray.size_append]; omega))) ?_
  refine R.move (GOk.no rfl) rfl rfl ?_
  refine R.addS (GOk.no rfl) rfl rfl rfl (addOk (by first | omega | (simp only [ByteArray.size_append]; omega))) ?_
  refine R.move (GOk.no rfl) rfl rfl ?_
  refine R.move (GOk.no rfl) rfl rfl ?_
  refine R.maxI (GOk.no rfl) rfl rfl rfl ?_
  refine R.assign (GOk.no rfl) rfl rfl ?_
  refine R.assign (GOk.no rfl) rfl rfl ?_
  refine Run.nil ⟨by kernel_rfl, ?_⟩
  refine J.ret ?_
  exact FinQ.of ⟨ret_eq rfl (rfl), ret_eq rfl (rfl), trivial⟩ ⟨rfl, rfl, rfl, rfl, trivial⟩
theorem con_24 (l : List Nd) (n : Nd) (front s : ByteArray) (x : Int) (hc : Con Tryd.prog 14 [sD l, sI n.a, sI 0] [(2000, some (lvO m)), (2002, some (pow10 q))] [sS s, sI x] [(2000, some (lvO m)), (2002, some (pow10 q))] []) (hx : 0 ≤ x ∧ x ≤ 1000000000) (hs : front.size + s.size + 1 ≤ 1000000000) :
    Con Tryd.prog 24 [sS front, .one (.ptr 1013 0)] [(1013, some (.box [.clo 22 [] [1003, 1008]])), (1003, some (.pbox [pN l])), (1008, some (.pbox (encN n))), (2000, some (lvO m)), (2002, some (pow10 q))] [sS (front ++ s ++ ⟨#[41]⟩), sI (x + 1)] [(1013, some (.box [.clo 22 [] [1003, 1008]])), (1003, some (.pbox [pN l])), (1008, some (.pbox (encN n))), (2000, some (lvO m)), (2002, some (pow10 q))] [] := by
  refine con_of_J [] Tryd.func24 rfl rfl Tryd.ntmps24 rfl (Nat.le_of_ble_eq_true rfl) rfl rfl ?_
  refine J.seq ?_
  refine J.region ?_
  refine R.assign (GOk.no rfl) rfl rfl ?_
  refine R.assign (GOk.no rfl) rfl rfl ?_
  refine Run.nil ⟨by kernel_rfl, ?_⟩
  refine J.seq ?_
  refine J.region ?_
  first | refine R.ldP1 Tryd.isAgg53 (GOk.no rfl) rfl rfl rfl rfl ?_ | refine R.ldAt1 Tryd.isAgg53 (GOk.no rfl) rfl rfl rfl ?_ | refine R.ldB1 Tryd.isAgg53 (GOk.no rfl) rfl rfl rfl rfl ?_ | refine R.ldElM1 Tryd.isAgg53 (GOk.no rfl) rfl rfl rfl (by omega) rfl ?_
  refine R.move (GOk.no rfl) rfl rfl ?_
  refine R.callV (first := []) (caps := [1003, 1008]) [((.const _), _), ((.tmp 9), _), ((.const _), _)] true (con_22 l n 0 front ⟨#[41]⟩ s x hc hs) rfl (GOk.no rfl) (fun d h => by cases h; rfl) rfl ⟨rfl, rfl, rfl, trivial⟩ ⟨rfl, rfl, rfl, rfl, trivial⟩ rfl (fun _ => ⟨rfl, rfl, rfl, rfl, trivial⟩) ?_
  refine R.move (GOk.no rfl) rfl rfl ?_
  refine R.extract (GOk.no rfl) rfl rfl rfl ?_
  refine R.extract (GOk.no rfl) rfl rfl rfl ?_
  refine R.assign (GOk.no rfl) rfl rfl ?_
  refine R.assign (GOk.no rfl) rfl rfl ?_
  refine Run.nil ⟨by kernel_rfl, ?_⟩
  refine J.seq ?_
  refine J.region ?_
  refine R.move (GOk.no rfl) rfl rfl ?_
  refine R.move (GOk.no rfl) rfl rfl ?_
  refine R.add (GOk.no rfl) rfl rfl rfl ⟨by omega, by omega⟩ ?_
  refine R.assign (GOk.no rfl) rfl rfl ?_
  refine R.assign (GOk.no rfl) rfl rfl ?_
  refine Run.nil ⟨by kernel_rfl, ?_⟩
  refine J.ret ?_
  exact FinQ.of ⟨ret_eq rfl (rfl), ret_eq rfl (rfl), trivial⟩ ⟨rfl, rfl, rfl, rfl, rfl, trivial⟩
theorem con_25 : Con Tryd.prog 25 [] [] [sS ⟨#[40, 41]⟩, sI 1] [] [] := by
  refine con_of_J [] Tryd.func25 rfl rfl Tryd.ntmps25 rfl (Nat.le_of_ble_eq_true rfl) rfl rfl ?_
  refine J.seq ?_
  refine J.region ?_
  refine R.assign (GOk.no rfl) rfl rfl ?_
  refine R.assign (GOk.no rfl) rfl rfl ?_
  refine Run.nil ⟨by kernel_rfl, ?_⟩
  refine J.seq ?_
  refine J.region ?_
  refine R.assign (GOk.no rfl) rfl rfl ?_
  refine R.assign (GOk.no rfl) rfl rfl ?_
  refine Run.nil ⟨by kernel_rfl, ?_⟩
  refine J.ret ?_
  exact FinQ.of ⟨ret_eq rfl (rfl), ret_eq rfl (rfl), trivial⟩ trivial
theorem con_26 (n : Nd) : Con Tryd.prog 26 [.one (.ptr 1008 0)] [(1008, some (.pbox (encN n)))] [sS (clsText n.cls), sI 0] [(1008, some (.pbox (encN n)))] [] := by
  refine con_of_J [] Tryd.func26 rfl rfl Tryd.ntmps26 rfl (Nat.le_of_ble_eq_true rfl) rfl rfl ?_
  refine J.seq ?_
  refine J.region ?_
  refine R.assign (GOk.no rfl) rfl rfl ?_
  refine R.assign (GOk.no rfl) rfl rfl ?_
  refine Run.nil ⟨by kernel_rfl, ?_⟩
  refine J.seq ?_
  refine J.region ?_
  first | refine R.fldPtr Tryd.underlying32 rfl Tryd.sizeOf30 rfl (GOk.no rfl) rfl rfl ?_ | refine R.fldAt Tryd.underlying32 rfl Tryd.sizeOf30 rfl (GOk.no rfl) rfl rfl ?_ | refine R.fldEl Tryd.underlying32 rfl Tryd.sizeOf30 rfl (GOk.no rfl) rfl rfl ?_
  first | refine R.ldPA Tryd.isAgg30 Tryd.sizeOf30 (GOk.no rfl) rfl rfl rfl (Nat.le_of_ble_eq_true rfl) ?_ | refine R.ldAtA Tryd.isAgg30 Tryd.sizeOf30 (GOk.no rfl) rfl rfl (Nat.le_of_ble_eq_true rfl) ?_ | refine R.ldBA Tryd.isAgg30 Tryd.sizeOf30 (GOk.no rfl) rfl rfl rfl (Nat.le_of_ble_eq_true rfl) ?_ | refine R.ldElMA Tryd.isAgg30 Tryd.sizeOf30 (GOk.no rfl) rfl rfl rfl (by omega) (Nat.le_of_ble_eq_true rfl) ?_
  refine R.call [((.tmp 4), _)] (con_12 n.cls) rfl (GOk.no rfl) rfl ⟨rfl, trivial⟩ ?_
  refine R.assign (GOk.no rfl) rfl rfl ?_
  refine R.assign (GOk.no rfl) rfl rfl ?_
  refine Run.nil ⟨by kernel_rfl, ?_⟩
  refine J.ret ?_
  exact FinQ.of ⟨ret_eq rfl (rfl), ret_eq rfl (rfl), trivial⟩ ⟨rfl, trivial⟩
theorem con_27 (n : Nd) (hs : n.text.size ≤ 1000000000) : Con Tryd.prog 27 [.one (.ptr 1008 0)] [(1008, some (.pbox (encN n)))] [sS (⟨#[34]⟩ ++ n.text ++ ⟨#[34]⟩), sI 0] [(1008, some (.pbox (encN n)))] [] := by
  have h34 : (⟨#[34]⟩ : ByteArray).size = 1 := rfl
  refine con_of_J [] Tryd.func27 rfl rfl Tryd.ntmps27 rfl (Nat.le_of_ble_eq_true rfl) rfl rfl ?_
  refine J.seq ?_
  refine J.region ?_
  refine R.assign (GOk.no rfl) rfl rfl ?_
  refine R.assign (GOk.no rfl) rfl rfl ?_
  refine Run.nil ⟨by kernel_rfl, ?_⟩
  refine J.seq ?_
  refine J.region ?_
  first | refine R.fldPtr Tryd.underlying32 rfl Tryd.sizeOf9 rfl (GOk.no rfl) rfl rfl ?_ | refine R.fldAt Tryd.underlying32 rfl Tryd.sizeOf9 rfl (GOk.no rfl) rfl rfl ?_ | refine R.fldEl Tryd.underlying32 rfl Tryd.sizeOf9 rfl (GOk.no rfl) rfl rfl ?_
  first | refine R.ldP1 Tryd.isAgg9 (GOk.no rfl) rfl rfl rfl rfl ?_ | refine R.ldAt1 Tryd.isAgg9 (GOk.no rfl) rfl rfl rfl ?_ | refine R.ldB1 Tryd.isAgg9 (GOk.no rfl) rfl rfl rfl rfl ?_ | refine R.ldElM1 Tryd.isAgg9 (GOk.no rfl) rfl rfl rfl (by omega) rfl ?_
  refine R.addS (b := n.text) (GOk.no rfl) rfl rfl rfl (addOk (by omega)) ?_
  refine R.addS (GOk.no rfl) rfl rfl rfl (addOk (by simp only [ByteArray.size_append]; omega)) ?_
  refine R.assign (GOk.no rfl) rfl rfl ?_
  refine R.assign (GOk.no rfl) rfl rfl ?_
  refine Run.nil ⟨by kernel_rfl, ?_⟩
  refine J.ret ?_
  exact FinQ.of ⟨ret_eq rfl (rfl), ret_eq rfl (rfl), trivial⟩ ⟨rfl, trivial⟩
theorem con_28 (l : List Nd) (n : Nd) (s s2 : ByteArray) (x y : Int) (hc : Con Tryd.prog 14 [sD l, sI n.a, sI 1] [(2000, some (lvO m)), (2002, some (pow10 q))] [sS s, sI x] [(2000, some (lvO m)), (2002, some (pow10 q))] []) (hc2 : Con Tryd.prog 14 [sD l, sI n.b, sI (1 + 1)] [(2000, some (lvO m)), (2002, some (pow10 q))] [sS s2, sI y] [(2000, some (lvO m)), (2002, some (pow10 q))] []) (hs : s.size + s2.size + 1 ≤ 1000000000) :
    Con Tryd.prog 28 [.one (.ptr 1014 0)] [(1014, some (.box [.clo 23 [] [1003, 1008]])), (1003, some (.pbox [pN l])), (1008, some (.pbox (encN n))), (2000, some (lvO m)), (2002, some (pow10 q))] [sS (s ++ ⟨#[]⟩ ++ s2), sI (maxI x y)] [(1014, some (.box [.clo 23 [] [1003, 1008]])), (1003, some (.pbox [pN l])), (1008, some (.pbox (encN n))), (2000, some (lvO m)), (2002, some (pow10 q))] [] := by
  refine con_of_J [] Tryd.func28 rfl rfl Tryd.ntmps28 rfl (Nat.le_of_ble_eq_true rfl) rfl rfl ?_
  refine J.seq ?_
  refine J.region ?_
  refine R.assign (GOk.no rfl) rfl rfl ?_
  refine R.assign (GOk.no rfl) rfl rfl ?_
  refine Run.nil ⟨by kernel_rfl, ?_⟩
  refine J.seq ?_
  refine J.region ?_
  first | refine R.ldP1 Tryd.isAgg54 (GOk.no rfl) rfl rfl rfl rfl ?_ | refine R.ldAt1 Tryd.isAgg54 (GOk.no rfl) rfl rfl rfl ?_ | refine R.ldB1 Tryd.isAgg54 (GOk.no rfl) rfl rfl rfl rfl ?_ | refine R.ldElM1 Tryd.isAgg54 (GOk.no rfl) rfl rfl rfl (by omega) rfl ?_
  refine R.callV (first := []) (caps := [1003, 1008]) [((.const _), _), ((.const _), _)] true (con_23 l n 1 ⟨#[]⟩ s s2 x y hc hc2 ⟨by omega, by omega⟩ (by have : (⟨#[]⟩ : ByteArray).size = 0 := rfl; omega)) rfl (GOk.no rfl) (fun d h => by cases h; rfl) rfl ⟨rfl, rfl, trivial⟩ ⟨rfl, rfl, rfl, rfl, trivial⟩ rfl (fun _ => ⟨rfl, rfl, rfl, rfl, trivial⟩) ?_
  refine R.extract (GOk.no rfl) rfl rfl rfl ?_
  refine R.extract (GOk.no rfl) rfl rfl rfl ?_
  refine R.assign (GOk.no rfl) rfl rfl ?_
  refine R.assign (GOk.no rfl) rfl rfl ?_
  refine Run.nil ⟨by kernel_rfl, ?_⟩
  refine J.ret ?_
  exact FinQ.of ⟨ret_eq rfl (rfl), ret_eq rfl (rfl), trivial⟩ ⟨rfl, rfl, rfl, rfl, rfl, trivial⟩
theorem con_29 (l : List Nd) (n : Nd) (s s2 : ByteArray) (x y : Int) (hc : Con Tryd.prog 14 [sD l, sI n.a, sI 0] [(2000, some (lvO m)), (2002, some (pow10 q))] [sS s, sI x] [(2000, some (lvO m)), (2002, some (pow10 q))] []) (hc2 : Con Tryd.prog 14 [sD l, sI n.b, sI (0 + 1)] [(2000, some (lvO m)), (2002, some (pow10 q))] [sS s2, sI y] [(2000, some (lvO m)), (2002, some (pow10 q))] []) (hs : s.size + s2.size + 1 ≤ 1000000000) :
    Con Tryd.prog 29 [.one (.ptr 1014 0)] [(1014, some (.box [.clo 23 [] [1003, 1008]])), (1003, some (.pbox [pN l])), (1008, some (.pbox (encN n))), (2000, some (lvO m)), (2002, some (pow10 q))] [sS (s ++ ⟨#[124]⟩ ++ s2), sI (maxI x y)] [(1014, some (.box [.clo 23 [] [1003, 1008]])), (1003, some (.pbox [pN l])), (1008, some (.pbox (encN n))), (2000, some (lvO m)), (2002, some (pow10 q))] [] := by
  refine con_of_J [] Tryd.func29 rfl rfl Tryd.ntmps29 rfl (Nat.le_of_ble_eq_true rfl) rfl rfl ?_
  refine J.seq ?_
  refine J.region ?_
  refine R.assign (GOk.no rfl) rfl rfl ?_
  refine R.assign (GOk.no rfl) rfl rfl ?_
  refine Run.nil ⟨by kernel_rfl, ?_⟩
  refine J.seq ?_
  refine J.region ?_
  first | refine R.ldP1 Tryd.isAgg54 (GOk.no rfl) rfl rfl rfl rfl ?_ | refine R.ldAt1 Tryd.isAgg54 (GOk.no rfl) rfl rfl rfl ?_ | refine R.ldB1 Tryd.isAgg54 (GOk.no rfl) rfl rfl rfl rfl ?_ | refine R.ldElM1 Tryd.isAgg54 (GOk.no rfl) rfl rfl rfl (by omega) rfl ?_
  refine R.callV (first := []) (caps := [1003, 1008]) [((.const _), _), ((.const _), _)] true (con_23 l n 0 ⟨#[124]⟩ s s2 x y hc hc2 ⟨by omega, by omega⟩ (by have : (⟨#[124]⟩ : ByteArray).size = 1 := rfl; omega)) rfl (GOk.no rfl) (fun d h => by cases h; rfl) rfl ⟨rfl, rfl, trivial⟩ ⟨rfl, rfl, rfl, rfl, trivial⟩ rfl (fun _ => ⟨rfl, rfl, rfl, rfl, trivial⟩) ?_
  refine R.extract (GOk.no rfl) rfl rfl rfl ?_
  refine R.extract (GOk.no rfl) rfl rfl rfl ?_
  refine R.assign (GOk.no rfl) rfl rfl ?_
  refine R.assign (GOk.no rfl) rfl rfl ?_
  refine Run.nil ⟨by kernel_rfl, ?_⟩
  refine J.ret ?_
  exact FinQ.of ⟨ret_eq rfl (rfl), ret_eq rfl (rfl), trivial⟩ ⟨rfl, rfl, rfl, rfl, rfl, trivial⟩
theorem con_30 (l : List Nd) (n : Nd) (s : ByteArray) (x : Int) (hc : Con Tryd.prog 14 [sD l, sI n.a, sI 2] [(2000, some (lvO m)), (2002, some (pow10 q))] [sS s, sI x] [(2000, some (lvO m)), (2002, some (pow10 q))] []) (hs : s.size + 1 ≤ 1000000000) :
    Con Tryd.prog 30 [.one (.ptr 1013 0)] [(1013, some (.box [.clo 22 [] [1003, 1008]])), (1003, some (.pbox [pN l])), (1008, some (.pbox (encN n))), (2000, some (lvO m)), (2002, some (pow10 q))] [sS (⟨#[]⟩ ++ s ++ ⟨#[42]⟩), sI x] [(1013, some (.box [.clo 22 [] [1003, 1008]])), (1003, some (.pbox [pN l])), (1008, some (.pbox (encN n))), (2000, some (lvO m)), (2002, some (pow10 q))] [] := by
  refine con_of_J [] Tryd.func30 rfl rfl Tryd.ntmps30 rfl (Nat.le_of_ble_eq_true rfl) rfl rfl ?_
  refine J.seq ?_
  refine J.region ?_
  refine R.assign (GOk.no rfl) rfl rfl ?_
  refine R.assign (GOk.no rfl) rfl rfl ?_
  refine Run.nil ⟨by kernel_rfl, ?_⟩
  refine J.seq ?_
  refine J.region ?_
  first | refine R.ldP1 Tryd.isAgg53 (GOk.no rfl) rfl rfl rfl rfl ?_ | refine R.ldAt1 Tryd.isAgg53 (GOk.no rfl) rfl rfl rfl ?_ | refine R.ldB1 Tryd.isAgg53 (GOk.no rfl) rfl rfl rfl rfl ?_ | refine R.ldElM1 Tryd.isAgg53 (GOk.no rfl) rfl rfl rfl (by omega) rfl ?_
  refine R.callV (first := []) (caps := [1003, 1008]) [((.const _), _), ((.const _), _), ((.const _), _)] true (con_22 l n 2 ⟨#[]⟩ ⟨#[42]⟩ s x hc (by have : (⟨#[]⟩ : ByteArray).size = 0 := rfl; have : (⟨#[42]⟩ : ByteArray).size = 1 := rfl; omega)) rfl (GOk.no rfl) (fun d h => by cases h; rfl) rfl ⟨rfl, rfl, rfl, trivial⟩ ⟨rfl, rfl, rfl, rfl, trivial⟩ rfl (fun _ => ⟨rfl, rfl, rfl, rfl, trivial⟩) ?_
  refine R.extract (GOk.no rfl) rfl rfl rfl ?_
  refine R.extract (GOk.no rfl) rfl rfl rfl ?_
  refine R.assign (GOk.no rfl) rfl rfl ?_
  refine R.assign (GOk.no rfl) rfl rfl ?_
  refine Run.nil ⟨by kernel_rfl, ?_⟩
  refine J.ret ?_
  exact FinQ.of ⟨ret_eq rfl (rfl), ret_eq rfl (rfl), trivial⟩ ⟨rfl, rfl, rfl, rfl, rfl, trivial⟩
theorem con_31 (l : List Nd) (n : Nd) (s : ByteArray) (x : Int) (hc : Con Tryd.prog 14 [sD l, sI n.a, sI 2] [(2000, some (lvO m)), (2002, some (pow10 q))] [sS s, sI x] [(2000, some (lvO m)), (2002, some (pow10 q))] []) (hn : 0 ≤ n.lo ∧ n.lo ≤ n.hi ∧ n.hi ≤ 255) (hs : s.size + 1 ≤ 100000000) :
    Con Tryd.prog 31 [.one (.ptr 1013 0), .one (.ptr 1008 0)] [(1013, some (.box [.clo 22 [] [1003, 1008]])), (1003, some (.pbox [pN l])), (1008, some (.pbox (encN n))), (2000, some (lvO m)), (2002, some (pow10 q))] [sS (⟨#[]⟩ ++ s ++ repB n.lo n.hi), sI x] [(1013, some (.box [.clo 22 [] [1003, 1008]])), (1003, some (.pbox [pN l])), (1008, some (.pbox (encN n))), (2000, some (lvO m)), (2002, some (pow10 q))] [] := by
  have i1 := itoaB_size (n := n.lo) hn.1 (by omega)
  have i2 := itoaB_size (n := n.hi) (by omega) hn.2.2
  refine con_of_J [] Tryd.func31 rfl rfl Tryd.ntmps31 rfl (Nat.le_of_ble_eq_true rfl) rfl rfl ?_
  refine J.seq ?_
  refine J.region ?_
  refine R.assign (GOk.no rfl) rfl rfl ?_
  refine R.assign (GOk.no rfl) rfl rfl ?_
  refine Run.nil ⟨by kernel_rfl, ?_⟩
  refine J.seq ?_
  refine J.draw rfl ?_
  first | refine R.ldP1 Tryd.isAgg53 (GOk.no rfl) rfl rfl rfl rfl ?_ | refine R.ldAt1 Tryd.isAgg53 (GOk.no rfl) rfl rfl rfl ?_ | refine R.ldB1 Tryd.isAgg53 (GOk.no rfl) rfl rfl rfl rfl ?_ | refine R.ldElM1 Tryd.isAgg53 (GOk.no rfl) rfl rfl rfl (by omega) rfl ?_
  first | refine R.fldPtr Tryd.underlying32 rfl Tryd.sizeOf3 rfl (GOk.no rfl) rfl rfl ?_ | refine R.fldAt Tryd.underlying32 rfl Tryd.sizeOf3 rfl (GOk.no rfl) rfl rfl ?_ | refine R.fldEl Tryd.underlying32 rfl Tryd.sizeOf3 rfl (GOk.no rfl) rfl rfl ?_
  first | refine R.ldP1 Tryd.isAgg3 (GOk.no rfl) rfl rfl rfl rfl ?_ | refine R.ldAt1 Tryd.isAgg3 (GOk.no rfl) rfl rfl rfl ?_ | refine R.ldB1 Tryd.isAgg3 (GOk.no rfl) rfl rfl rfl rfl ?_ | refine R.ldElM1 Tryd.isAgg3 (GOk.no rfl) rfl rfl rfl (by omega) rfl ?_
  refine R.call0 [((.tmp 6), _)] true (con_32 n.lo (by omega) (by omega)) rfl (GOk.no rfl) (fun d h => by cases h; rfl) ⟨rfl, trivial⟩ ⟨rfl, trivial⟩ rfl (fun _ => ⟨rfl, trivial⟩) ?_
  refine R.addS (a := ⟨#[123]⟩) (b := itoaB n.lo) (GOk.no rfl) rfl rfl rfl (addOk (by have z1 : (⟨#[123]⟩ : ByteArray).size = 1 := rfl; have z2 : (⟨#[44]⟩ : ByteArray).size = 1 := rfl; have z3 : (⟨#[125]⟩ : ByteArray).size = 1 := rfl; first | omega | (simp only [ByteArray.size_append]; omega))) ?_
  refine R.addS (a := ⟨#[123]⟩ ++ itoaB n.lo) (b := ⟨#[44]⟩) (GOk.no rfl) rfl rfl rfl (addOk (by have z1 : (⟨#[123]⟩ : ByteArray).size = 1 := rfl; have z2 : (⟨#[44]⟩ : ByteArray).size = 1 := rfl; have z3 : (⟨#[125]⟩ : ByteArray).size = 1 := rfl; first | omega | (simp only [ByteArray.size_append]; omega))) ?_
  first | refine R.fldPtr Tryd.underlying32 rfl Tryd.sizeOf3 rfl (GOk.no rfl) rfl rfl ?_ | refine R.fldAt Tryd.underlying32 rfl Tryd.sizeOf3 rfl (GOk.no rfl) rfl rfl ?_ | refine R.fldEl Tryd.underlying32 rfl Tryd.sizeOf3 rfl (GOk.no rfl) rfl rfl ?_
  first | refine R.ldP1 Tryd.isAgg3 (GOk.no rfl) rfl rfl rfl rfl ?_ | refine R.ldAt1 Tryd.isAgg3 (GOk.no rfl) rfl rfl rfl ?_ | refine R.ldB1 Tryd.isAgg3 (GOk.no rfl) rfl rfl rfl rfl ?_ | refine R.ldElM1 Tryd.isAgg3 (GOk.no rfl) rfl rfl rfl (by omega) rfl ?_
  refine R.call0 [((.tmp 11), _)] true (con_32 n.hi (by omega) (by omega)) rfl (GOk.no rfl) (fun d h => by cases h; rfl) ⟨rfl, trivial⟩ ⟨rfl, trivial⟩ rfl (fun _ => ⟨rfl, trivial⟩) ?_
  refine R.addS (a := ⟨#[123]⟩ ++ itoaB n.lo ++ ⟨#[44]⟩) (b := itoaB n.hi) (GOk.no rfl) rfl rfl rfl (addOk (by have z1 : (⟨#[123]⟩ : ByteArray).size = 1 := rfl; have z2 : (⟨#[44]⟩ : ByteArray).size = 1 := rfl; have z3 : (⟨#[125]⟩ : ByteArray).size = 1 := rfl; first | omega | (simp only [ByteArray.size_append]; omega))) ?_
  refine R.addS (a := ⟨#[123]⟩ ++ itoaB n.lo ++ ⟨#[44]⟩ ++ itoaB n.hi) (b := ⟨#[125]⟩) (GOk.no rfl) rfl rfl rfl (addOk (by have z1 : (⟨#[123]⟩ : ByteArray).size = 1 := rfl; have z2 : (⟨#[44]⟩ : ByteArray).size = 1 := rfl; have z3 : (⟨#[125]⟩ : ByteArray).size = 1 := rfl; first | omega | (simp only [ByteArray.size_append]; omega))) ?_
  refine R.callV (first := []) (caps := [1003, 1008]) [((.const _), _), ((.const _), _), ((.tmp 14), _)] true (con_22 l n 2 ⟨#[]⟩ (repB n.lo n.hi) s x hc (by have : (⟨#[]⟩ : ByteArray).size = 0 := rfl; have := repB_size hn.1 hn.2.1 hn.2.2; omega)) rfl (GOk.no rfl) (fun d h => by cases h; rfl) rfl ⟨rfl, rfl, rfl, trivial⟩ ⟨rfl, rfl, rfl, rfl, trivial⟩ rfl (fun _ => ⟨rfl, rfl, rfl, rfl, trivial⟩) ?_
  refine R.extract (GOk.no rfl) rfl rfl rfl ?_
  refine R.extract (GOk.no rfl) rfl rfl rfl ?_
  refine R.assign (GOk.no rfl) rfl rfl ?_
  refine R.assign (GOk.no rfl) rfl rfl ?_
  refine Run.nil ⟨by kernel_rfl, ?_⟩
  refine J.ret ?_
  exact FinQ.of ⟨ret_eq rfl (rfl), ret_eq rfl (rfl), trivial⟩ ⟨rfl, rfl, rfl, rfl, rfl, trivial⟩
theorem con_33 (l : List Nd) (n : Nd) (s : ByteArray) (x : Int) (hc : Con Tryd.prog 14 [sD l, sI n.a, sI 0] [(2000, some (lvO m)), (2002, some (pow10 q))] [sS s, sI x] [(2000, some (lvO m)), (2002, some (pow10 q))] []) (hx : 0 ≤ x ∧ x ≤ 1000000000) (hs : s.size + 3 ≤ 1000000000) :
    Con Tryd.prog 33 [.one (.ptr 1015 0)] [(1015, some (.box [.clo 24 [] [1013]])), (1013, some (.box [.clo 22 [] [1003, 1008]])), (1003, some (.pbox [pN l])), (1008, some (.pbox (encN n))), (2000, some (lvO m)), (2002, some (pow10 q))] [sS (⟨#[98, 40]⟩ ++ s ++ ⟨#[41]⟩), sI (x + 1)] [(1015, some (.box [.clo 24 [] [1013]])), (1013, some (.box [.clo 22 [] [1003, 1008]])), (1003, some (.pbox [pN l])), (1008, some (.pbox (encN n))), (2000, some (lvO m)), (2002, some (pow10 q))] [] := by
  refine con_of_J [] Tryd.func33 rfl rfl Tryd.ntmps33 rfl (Nat.le_of_ble_eq_true rfl) rfl rfl ?_
  refine J.seq ?_
  refine J.region ?_
  refine R.assign (GOk.no rfl) rfl rfl ?_
  refine R.assign (GOk.no rfl) rfl rfl ?_
  refine Run.nil ⟨by kernel_rfl, ?_⟩
  refine J.seq ?_
  refine J.region ?_
  first | refine R.ldP1 Tryd.isAgg55 (GOk.no rfl) rfl rfl rfl rfl ?_ | refine R.ldAt1 Tryd.isAgg55 (GOk.no rfl) rfl rfl rfl ?_ | refine R.ldB1 Tryd.isAgg55 (GOk.no rfl) rfl rfl rfl rfl ?_ | refine R.ldElM1 Tryd.isAgg55 (GOk.no rfl) rfl rfl rfl (by omega) rfl ?_
  refine R.callV (first := []) (caps := [1013]) [((.const _), _)] true (con_24 l n ⟨#[98, 40]⟩ s x hc hx (by have : (⟨#[98, 40]⟩ : ByteArray).size = 2 := rfl; omega)) rfl (GOk.no rfl) (fun d h => by cases h; rfl) rfl ⟨rfl, trivial⟩ ⟨rfl, rfl, rfl, rfl, rfl, trivial⟩ rfl (fun _ => ⟨rfl, rfl, rfl, rfl, rfl, trivial⟩) ?_
  refine R.extract (GOk.no rfl) rfl rfl rfl ?_
  refine R.extract (GOk.no rfl) rfl rfl rfl ?_
  refine R.assign (GOk.no rfl) rfl rfl ?_
  refine R.assign (GOk.no rfl) rfl rfl ?_
  refine Run.nil ⟨by kernel_rfl, ?_⟩
  refine J.ret ?_
  exact FinQ.of ⟨ret_eq rfl (rfl), ret_eq rfl (rfl), trivial⟩ ⟨rfl, rfl, rfl, rfl, rfl, rfl, trivial⟩
theorem con_34 (l : List Nd) (n : Nd) (s : ByteArray) (x : Int) (hc : Con Tryd.prog 14 [sD l, sI n.a, sI 0] [(2000, some (lvO m)), (2002, some (pow10 q))] [sS s, sI x] [(2000, some (lvO m)), (2002, some (pow10 q))] []) (hx : 0 ≤ x ∧ x ≤ 1000000000) (hs : s.size + 3 ≤ 1000000000) :
    Con Tryd.prog 34 [.one (.ptr 1015 0)] [(1015, some (.box [.clo 24 [] [1013]])), (1013, some (.box [.clo 22 [] [1003, 1008]])), (1003, some (.pbox [pN l])), (1008, some (.pbox (encN n))), (2000, some (lvO m)), (2002, some (pow10 q))] [sS (⟨#[119, 40]⟩ ++ s ++ ⟨#[41]⟩), sI (x + 1)] [(1015, some (.box [.clo 24 [] [1013]])), (1013, some (.box [.clo 22 [] [1003, 1008]])), (1003, some (.pbox [pN l])), (1008, some (.pbox (encN n))), (2000, some (lvO m)), (2002, some (pow10 q))] [] := by
  refine con_of_J [] Tryd.func34 rfl rfl Tryd.ntmps34 rfl (Nat.le_of_ble_eq_true rfl) rfl rfl ?_
  refine J.seq ?_
  refine J.region ?_
  refine R.assign (GOk.no rfl) rfl rfl ?_
  refine R.assign (GOk.no rfl) rfl rfl ?_
  refine Run.nil ⟨by kernel_rfl, ?_⟩
  refine J.seq ?_
  refine J.region ?_
  first | refine R.ldP1 Tryd.isAgg55 (GOk.no rfl) rfl rfl rfl rfl ?_ | refine R.ldAt1 Tryd.isAgg55 (GOk.no rfl) rfl rfl rfl ?_ | refine R.ldB1 Tryd.isAgg55 (GOk.no rfl) rfl rfl rfl rfl ?_ | refine R.ldElM1 Tryd.isAgg55 (GOk.no rfl) rfl rfl rfl (by omega) rfl ?_
  refine R.callV (first := []) (caps := [1013]) [((.const _), _)] true (con_24 l n ⟨#[119, 40]⟩ s x hc hx (by have : (⟨#[119, 40]⟩ : ByteArray).size = 2 := rfl; omega)) rfl (GOk.no rfl) (fun d h => by cases h; rfl) rfl ⟨rfl, trivial⟩ ⟨rfl, rfl, rfl, rfl, rfl, trivial⟩ rfl (fun _ => ⟨rfl, rfl, rfl, rfl, rfl, trivial⟩) ?_
  refine R.extract (GOk.no rfl) rfl rfl rfl ?_
  refine R.extract (GOk.no rfl) rfl rfl rfl ?_
  refine R.assign (GOk.no rfl) rfl rfl ?_
  refine R.assign (GOk.no rfl) rfl rfl ?_
  refine Run.nil ⟨by kernel_rfl, ?_⟩
  refine J.ret ?_
  exact FinQ.of ⟨ret_eq rfl (rfl), ret_eq rfl (rfl), trivial⟩ ⟨rfl, rfl, rfl, rfl, rfl, rfl, trivial⟩
theorem b14_1 (l : List Nd) (hl : l.length ≤ 1000000) (j : Nat) (hj : j < l.length) (level : Int) (hlev : level ≤ 3) (hk : (l[j]!).kind = 1)  :
    Con Tryd.prog 14 [sD l, sI (j : Int), sI level] [(2000, some (lvO m)), (2002, some (pow10 q))] [sS (⟨#[40, 41]⟩), sI (1)] [(2000, some (lvO m)), (2002, some (pow10 q))] [] := by
  refine con_of_J [] Tryd.func14 rfl rfl Tryd.ntmps14 rfl (Nat.le_of_ble_eq_true rfl) rfl rfl ?_
  refine J.seq ?_
  refine J.region ?_
  first | refine R.boxP rfl (GOk.no rfl) rfl rfl ?_ | refine R.boxA (GOk.no rfl) rfl rfl rfl ?_
  refine R.assign (GOk.no rfl) rfl rfl ?_
  refine R.assign (GOk.no rfl) rfl rfl ?_
  refine Run.nil ⟨by kernel_rfl, ?_⟩
  refine J.seq ?_
  refine J.region ?_
  first | refine R.fldPtr Tryd.underlying24 rfl Tryd.sizeOf22 rfl (GOk.no rfl) rfl rfl ?_ | refine R.fldAt Tryd.underlying24 rfl Tryd.sizeOf22 rfl (GOk.no rfl) rfl rfl ?_ | refine R.fldEl Tryd.underlying24 rfl Tryd.sizeOf22 rfl (GOk.no rfl) rfl rfl ?_
  first | refine R.ldP1 Tryd.isAgg22 (GOk.no rfl) rfl rfl rfl rfl ?_ | refine R.ldAt1 Tryd.isAgg22 (GOk.no rfl) rfl rfl rfl ?_ | refine R.ldB1 Tryd.isAgg22 (GOk.no rfl) rfl rfl rfl rfl ?_ | refine R.ldElM1 Tryd.isAgg22 (GOk.no rfl) rfl rfl rfl (by omega) rfl ?_
  refine R.move (GOk.no rfl) rfl rfl ?_
  refine R.idxM Tryd.underlying22 Tryd.sizeOf32 (GOk.no rfl) rfl rfl rfl (by omega) (by omega) ?_
  first | refine R.ldPA Tryd.isAgg32 Tryd.sizeOf32 (GOk.no rfl) rfl rfl rfl (Nat.le_of_ble_eq_true rfl) ?_ | refine R.ldAtA Tryd.isAgg32 Tryd.sizeOf32 (GOk.no rfl) rfl rfl (Nat.le_of_ble_eq_true rfl) ?_ | refine R.ldBA Tryd.isAgg32 Tryd.sizeOf32 (GOk.no rfl) rfl rfl rfl (Nat.le_of_ble_eq_true rfl) ?_ | refine R.ldElMA Tryd.isAgg32 Tryd.sizeOf32 (GOk.no rfl) rfl rfl rfl (by omega) (Nat.le_of_ble_eq_true rfl) ?_
  refine R.alloc _ (GOk.no rfl) rfl _ Tryd.zeroValue32 rfl rfl ?_
  first | refine R.stP Tryd.sizeOf32 (GOk.no rfl) rfl rfl rfl rfl rfl (Nat.le_of_ble_eq_true rfl) ?_ | refine R.stPB Tryd.sizeOf32 (GOk.no rfl) rfl rfl rfl rfl rfl ?_ | refine R.stB Tryd.sizeOf32 (GOk.no rfl) rfl rfl rfl rfl (Nat.le_of_ble_eq_true rfl) ?_
  refine Run.nil ⟨by kernel_rfl, ?_⟩
  refine J.seq ?_
  refine J.region ?_
  refine R.ldGM (κ := 2000) Tryd.isAgg52 (GOk.no rfl) rfl rfl ?_
  first | refine R.fldPtr Tryd.underlying32 rfl Tryd.sizeOf3 rfl (GOk.no rfl) rfl rfl ?_ | refine R.fldAt Tryd.underlying32 rfl Tryd.sizeOf3 rfl (GOk.no rfl) rfl rfl ?_ | refine R.fldEl Tryd.underlying32 rfl Tryd.sizeOf3 rfl (GOk.no rfl) rfl rfl ?_
  refine R.ldP1 Tryd.isAgg3 (GOk.no rfl) rfl rfl rfl rfl ?_
  refine R.spell 25 rfl (show _ = vI 1 from vI_eq (by first | exact hk | (rw [show (j : Int).toNat = j from rfl]; exact hk))) ?_
  refine R.lookF (z := sI 0) Tryd.underlying52 Tryd.underlying3 rfl Tryd.zeroValue3 (fun _ _ => .v _ rfl) (GOk.no rfl) rfl rfl rfl rfl rfl rfl ?_
  refine R.move (GOk.no rfl) rfl rfl ?_
  refine R.extract (GOk.no rfl) rfl rfl rfl ?_
  refine R.extract (GOk.no rfl) rfl rfl rfl ?_
  refine R.assign (GOk.no rfl) rfl rfl ?_
  refine R.assign (GOk.no rfl) rfl rfl ?_
  refine Run.nil ⟨by kernel_rfl, ?_⟩
  refine J.seq ?_
  refine J.seq ?_
  refine J.region ?_
  refine R.move (GOk.no rfl) rfl rfl ?_
  refine R.not (GOk.no rfl) rfl rfl ?_
  refine Run.nil ⟨by kernel_rfl, ?_⟩
  refine J.condT rfl ?_
  refine J.region ?_
  refine R.assign (GOk.no rfl) rfl rfl ?_
  refine Run.nil ⟨by kernel_rfl, ?_⟩
  refine J.seq ?_
  refine J.seq ?_
  refine J.region ?_
  refine R.move (GOk.no rfl) rfl rfl ?_
  refine R.move (GOk.no rfl) rfl rfl ?_
  refine R.gtr (GOk.no rfl) rfl rfl rfl ?_
  refine Run.nil ⟨by kernel_rfl, ?_⟩
  refine J.cond rfl (fun hc1 => ?_) (fun hc1 => ?_)
  · try simp only [decide_eq_true_eq, decide_eq_false_iff_not, beq_iff_eq, beq_eq_false_iff_ne, bne_iff_ne, bne_eq_false_iff_eq, ne_eq, Bool.not_eq_true', Bool.not_eq_false', Decidable.not_not, Int.toNat_natCast] at hc1
    exfalso; omega
  · try simp only [decide_eq_true_eq, decide_eq_false_iff_not, beq_iff_eq, beq_eq_false_iff_ne, bne_iff_ne, bne_eq_false_iff_eq, ne_eq, Bool.not_eq_true', Bool.not_eq_false', Decidable.not_not, Int.toNat_natCast] at hc1
    refine J.skip ?_
    refine J.seq ?_
    refine J.region ?_
    refine R.mkFunc [] [((.tmp 3), _), ((.tmp 8), _)] rfl rfl (GOk.no rfl) rfl ⟨rfl, rfl, trivial⟩ ?_
    refine R.alloc _ (GOk.no rfl) rfl _ Tryd.zeroValue53 rfl rfl ?_
    first | refine R.stP Tryd.sizeOf53 (GOk.no rfl) rfl rfl rfl rfl rfl (Nat.le_of_ble_eq_true rfl) ?_ | refine R.stPB Tryd.sizeOf53 (GOk.no rfl) rfl rfl rfl rfl rfl ?_ | refine R.stB Tryd.sizeOf53 (GOk.no rfl) rfl rfl rfl rfl (Nat.le_of_ble_eq_true rfl) ?_
    refine Run.nil ⟨by kernel_rfl, ?_⟩
    refine J.seq ?_
    refine J.region ?_
    refine R.mkFunc [] [((.tmp 3), _), ((.tmp 8), _)] rfl rfl (GOk.no rfl) rfl ⟨rfl, rfl, trivial⟩ ?_
    refine R.alloc _ (GOk.no rfl) rfl _ Tryd.zeroValue54 rfl rfl ?_
    first | refine R.stP Tryd.sizeOf54 (GOk.no rfl) rfl rfl rfl rfl rfl (Nat.le_of_ble_eq_true rfl) ?_ | refine R.stPB Tryd.sizeOf54 (GOk.no rfl) rfl rfl rfl rfl rfl ?_ | refine R.stB Tryd.sizeOf54 (GOk.no rfl) rfl rfl rfl rfl (Nat.le_of_ble_eq_true rfl) ?_
    refine Run.nil ⟨by kernel_rfl, ?_⟩
    refine J.seq ?_
    refine J.region ?_
    refine R.mkFunc [] [((.tmp 13), _)] rfl rfl (GOk.no rfl) rfl ⟨rfl, trivial⟩ ?_
    refine R.alloc _ (GOk.no rfl) rfl _ Tryd.zeroValue55 rfl rfl ?_
    first | refine R.stP Tryd.sizeOf55 (GOk.no rfl) rfl rfl rfl rfl rfl (Nat.le_of_ble_eq_true rfl) ?_ | refine R.stPB Tryd.sizeOf55 (GOk.no rfl) rfl rfl rfl rfl rfl ?_ | refine R.stB Tryd.sizeOf55 (GOk.no rfl) rfl rfl rfl rfl (Nat.le_of_ble_eq_true rfl) ?_
    refine Run.nil ⟨by kernel_rfl, ?_⟩
    refine J.seq ?_
    refine J.region ?_
    refine R.mkMap (GOk.no rfl) rfl ?_
    refine R.insert Tryd.underlying57 Tryd.underlying3 rfl (GOk.no rfl) rfl rfl rfl rfl rfl ?_
    refine R.mkFunc [] [((.tmp 8), _)] rfl rfl (GOk.no rfl) rfl ⟨rfl, trivial⟩ ?_
    refine R.insert Tryd.underlying57 Tryd.underlying3 rfl (GOk.no rfl) rfl rfl rfl rfl rfl ?_
    refine R.mkFunc [] [((.tmp 8), _)] rfl rfl (GOk.no rfl) rfl ⟨rfl, trivial⟩ ?_
    refine R.insert Tryd.underlying57 Tryd.underlying3 rfl (GOk.no rfl) rfl rfl rfl rfl rfl ?_
    refine R.mkFunc [] [((.tmp 14), _)] rfl rfl (GOk.no rfl) rfl ⟨rfl, trivial⟩ ?_
    refine R.insert Tryd.underlying57 Tryd.underlying3 rfl (GOk.no rfl) rfl rfl rfl rfl rfl ?_
    refine R.mkFunc [] [((.tmp 14), _)] rfl rfl (GOk.no rfl) rfl ⟨rfl, trivial⟩ ?_
    refine R.insert Tryd.underlying57 Tryd.underlying3 rfl (GOk.no rfl) rfl rfl rfl rfl rfl ?_
    refine R.mkFunc [] [((.tmp 13), _)] rfl rfl (GOk.no rfl) rfl ⟨rfl, trivial⟩ ?_
    refine R.insert Tryd.underlying57 Tryd.underlying3 rfl (GOk.no rfl) rfl rfl rfl rfl rfl ?_
    refine R.mkFunc [] [((.tmp 13), _), ((.tmp 8), _)] rfl rfl (GOk.no rfl) rfl ⟨rfl, rfl, trivial⟩ ?_
    refine R.insert Tryd.underlying57 Tryd.underlying3 rfl (GOk.no rfl) rfl rfl rfl rfl rfl ?_
    refine R.mkFunc [] [((.tmp 15), _)] rfl rfl (GOk.no rfl) rfl ⟨rfl, trivial⟩ ?_
    refine R.insert Tryd.underlying57 Tryd.underlying3 rfl (GOk.no rfl) rfl rfl rfl rfl rfl ?_
    refine R.mkFunc [] [((.tmp 15), _)] rfl rfl (GOk.no rfl) rfl ⟨rfl, trivial⟩ ?_
    refine R.insert Tryd.underlying57 Tryd.underlying3 rfl (GOk.no rfl) rfl rfl rfl rfl rfl ?_
    refine R.move (GOk.no rfl) rfl rfl ?_
    refine R.assign (GOk.no rfl) rfl rfl ?_
    refine Run.nil ⟨by kernel_rfl, ?_⟩
    refine J.seq ?_
    refine J.region ?_
    refine R.move (GOk.no rfl) rfl rfl ?_
    first | refine R.fldPtr Tryd.underlying32 rfl Tryd.sizeOf3 rfl (GOk.no rfl) rfl rfl ?_ | refine R.fldAt Tryd.underlying32 rfl Tryd.sizeOf3 rfl (GOk.no rfl) rfl rfl ?_ | refine R.fldEl Tryd.underlying32 rfl Tryd.sizeOf3 rfl (GOk.no rfl) rfl rfl ?_
    refine R.ldP1 Tryd.isAgg3 (GOk.no rfl) rfl rfl rfl rfl ?_
    refine R.spell 61 rfl (show _ = vI 1 from vI_eq (by first | exact hk | (rw [show (j : Int).toNat = j from rfl]; exact hk))) ?_
    refine R.look1 Tryd.underlying57 Tryd.underlying3 rfl Tryd.zeroValue56 (GOk.no rfl) rfl rfl rfl rfl rfl rfl ?_
    refine R.callV (first := []) (caps := []) [] true ((con_25).ren (rn [(1003, 3), (1008, 8), (1013, 13), (1014, 14), (1015, 15)]) rfl) rfl (GOk.no rfl) (fun d h => by cases h; rfl) rfl trivial trivial rfl (fun _ => trivial) ?_
    refine R.extract (GOk.no rfl) rfl rfl rfl ?_
    refine R.extract (GOk.no rfl) rfl rfl rfl ?_
    refine R.assign (GOk.no rfl) rfl rfl ?_
    refine R.assign (GOk.no rfl) rfl rfl ?_
    refine Run.nil ⟨by kernel_rfl, ?_⟩
    refine J.ret ?_
    exact FinQ.of ⟨ret_eq rfl (rfl), ret_eq rfl (rfl), trivial⟩ ⟨rfl, rfl, trivial⟩
theorem b14_2 (l : List Nd) (hl : l.length ≤ 1000000) (j : Nat) (hj : j < l.length) (level : Int) (hlev : level ≤ 3) (hk : (l[j]!).kind = 2)  :
    Con Tryd.prog 14 [sD l, sI (j : Int), sI level] [(2000, some (lvO m)), (2002, some (pow10 q))] [sS (clsText (l[j]!).cls), sI (0)] [(2000, some (lvO m)), (2002, some (pow10 q))] [] := by
  refine con_of_J [] Tryd.func14 rfl rfl Tryd.ntmps14 rfl (Nat.le_of_ble_eq_true rfl) rfl rfl ?_
  refine J.seq ?_
  refine J.region ?_
  first | refine R.boxP rfl (GOk.no rfl) rfl rfl ?_ | refine R.boxA (GOk.no rfl) rfl rfl rfl ?_
  refine R.assign (GOk.no rfl) rfl rfl ?_
  refine R.assign (GOk.no rfl) rfl rfl ?_
  refine Run.nil ⟨by kernel_rfl, ?_⟩
  refine J.seq ?_
  refine J.region ?_
  first | refine R.fldPtr Tryd.underlying24 rfl Tryd.sizeOf22 rfl (GOk.no rfl) rfl rfl ?_ | refine R.fldAt Tryd.underlying24 rfl Tryd.sizeOf22 rfl (GOk.no rfl) rfl rfl ?_ | refine R.fldEl Tryd.underlying24 rfl Tryd.sizeOf22 rfl (GOk.no rfl) rfl rfl ?_
  first | refine R.ldP1 Tryd.isAgg22 (GOk.no rfl) rfl rfl rfl rfl ?_ | refine R.ldAt1 Tryd.isAgg22 (GOk.no rfl) rfl rfl rfl ?_ | refine R.ldB1 Tryd.isAgg22 (GOk.no rfl) rfl rfl rfl rfl ?_ | refine R.ldElM1 Tryd.isAgg22 (GOk.no rfl) rfl rfl rfl (by omega) rfl ?_
  refine R.move (GOk.no rfl) rfl rfl ?_
  refine R.idxM Tryd.underlying22 Tryd.sizeOf32 (GOk.no rfl) rfl rfl rfl (by omega) (by omega) ?_
  first | refine R.ldPA Tryd.isAgg32 Tryd.sizeOf32 (GOk.no rfl) rfl rfl rfl (Nat.le_of_ble_eq_true rfl) ?_ | refine R.ldAtA Tryd.isAgg32 Tryd.sizeOf32 (GOk.no rfl) rfl rfl (Nat.le_of_ble_eq_true rfl) ?_ | refine R.ldBA Tryd.isAgg32 Tryd.sizeOf32 (GOk.no rfl) rfl rfl rfl (Nat.le_of_ble_eq_true rfl) ?_ | refine R.ldElMA Tryd.isAgg32 Tryd.sizeOf32 (GOk.no rfl) rfl rfl rfl (by omega) (Nat.le_of_ble_eq_true rfl) ?_
  refine R.alloc _ (GOk.no rfl) rfl _ Tryd.zeroValue32 rfl rfl ?_
  first | refine R.stP Tryd.sizeOf32 (GOk.no rfl) rfl rfl rfl rfl rfl (Nat.le_of_ble_eq_true rfl) ?_ | refine R.stPB Tryd.sizeOf32 (GOk.no rfl) rfl rfl rfl rfl rfl ?_ | refine R.stB Tryd.sizeOf32 (GOk.no rfl) rfl rfl rfl rfl (Nat.le_of_ble_eq_true rfl) ?_
  refine Run.nil ⟨by kernel_rfl, ?_⟩
  refine J.seq ?_
  refine J.region ?_
  refine R.ldGM (κ := 2000) Tryd.isAgg52 (GOk.no rfl) rfl rfl ?_
  first | refine R.fldPtr Tryd.underlying32 rfl Tryd.sizeOf3 rfl (GOk.no rfl) rfl rfl ?_ | refine R.fldAt Tryd.underlying32 rfl Tryd.sizeOf3 rfl (GOk.no rfl) rfl rfl ?_ | refine R.fldEl Tryd.underlying32 rfl Tryd.sizeOf3 rfl (GOk.no rfl) rfl rfl ?_
  refine R.ldP1 Tryd.isAgg3 (GOk.no rfl) rfl rfl rfl rfl ?_
  refine R.spell 25 rfl (show _ = vI 2 from vI_eq (by first | exact hk | (rw [show (j : Int).toNat = j from rfl]; exact hk))) ?_
  refine R.lookF (z := sI 0) Tryd.underlying52 Tryd.underlying3 rfl Tryd.zeroValue3 (fun _ _ => .v _ rfl) (GOk.no rfl) rfl rfl rfl rfl rfl rfl ?_
  refine R.move (GOk.no rfl) rfl rfl ?_
  refine R.extract (GOk.no rfl) rfl rfl rfl ?_
  refine R.extract (GOk.no rfl) rfl rfl rfl ?_
  refine R.assign (GOk.no rfl) rfl rfl ?_
  refine R.assign (GOk.no rfl) rfl rfl ?_
  refine Run.nil ⟨by kernel_rfl, ?_⟩
  refine J.seq ?_
  refine J.seq ?_
  refine J.region ?_
  refine R.move (GOk.no rfl) rfl rfl ?_
  refine R.not (GOk.no rfl) rfl rfl ?_
  refine Run.nil ⟨by kernel_rfl, ?_⟩
  refine J.condT rfl ?_
  refine J.region ?_
  refine R.assign (GOk.no rfl) rfl rfl ?_
  refine Run.nil ⟨by kernel_rfl, ?_⟩
  refine J.seq ?_
  refine J.seq ?_
  refine J.region ?_
  refine R.move (GOk.no rfl) rfl rfl ?_
  refine R.move (GOk.no rfl) rfl rfl ?_
  refine R.gtr (GOk.no rfl) rfl rfl rfl ?_
  refine Run.nil ⟨by kernel_rfl, ?_⟩
  refine J.cond rfl (fun hc1 => ?_) (fun hc1 => ?_)
  · try simp only [decide_eq_true_eq, decide_eq_false_iff_not, beq_iff_eq, beq_eq_false_iff_ne, bne_iff_ne, bne_eq_false_iff_eq, ne_eq, Bool.not_eq_true', Bool.not_eq_false', Decidable.not_not, Int.toNat_natCast] at hc1
    exfalso; omega
  · try simp only [decide_eq_true_eq, decide_eq_false_iff_not, beq_iff_eq, beq_eq_false_iff_ne, bne_iff_ne, bne_eq_false_iff_eq, ne_eq, Bool.not_eq_true', Bool.not_eq_false', Decidable.not_not, Int.toNat_natCast] at hc1
    refine J.skip ?_
    refine J.seq ?_
    refine J.region ?_
    refine R.mkFunc [] [((.tmp 3), _), ((.tmp 8), _)] rfl rfl (GOk.no rfl) rfl ⟨rfl, rfl, trivial⟩ ?_
    refine R.alloc _ (GOk.no rfl) rfl _ Tryd.zeroValue53 rfl rfl ?_
    first | refine R.stP Tryd.sizeOf53 (GOk.no rfl) rfl rfl rfl rfl rfl (Nat.le_of_ble_eq_true rfl) ?_ | refine R.stPB Tryd.sizeOf53 (GOk.no rfl) rfl rfl rfl rfl rfl ?_ | refine R.stB Tryd.sizeOf53 (GOk.no rfl) rfl rfl rfl rfl (Nat.le_of_ble_eq_true rfl) ?_
    refine Run.nil ⟨by kernel_rfl, ?_⟩
    refine J.seq ?_
    refine J.region ?_
    refine R.mkFunc [] [((.tmp 3), _), ((.tmp 8), _)] rfl rfl (GOk.no rfl) rfl ⟨rfl, rfl, trivial⟩ ?_
    refine R.alloc _ (GOk.no rfl) rfl _ Tryd.zeroValue54 rfl rfl ?_
    first | refine R.stP Tryd.sizeOf54 (GOk.no rfl) rfl rfl rfl rfl rfl (Nat.le_of_ble_eq_true rfl) ?_ | refine R.stPB Tryd.sizeOf54 (GOk.no rfl) rfl rfl rfl rfl rfl ?_ | refine R.stB Tryd.sizeOf54 (GOk.no rfl) rfl rfl rfl rfl (Nat.le_of_ble_eq_true rfl) ?_
    refine Run.nil ⟨by kernel_rfl, ?_⟩
    refine J.seq ?_
    refine J.region ?_
    refine R.mkFunc [] [((.tmp 13), _)] rfl rfl (GOk.no rfl) rfl ⟨rfl, trivial⟩ ?_
    refine R.alloc _ (GOk.no rfl) rfl _ Tryd.zeroValue55 rfl rfl ?_
    first | refine R.stP Tryd.sizeOf55 (GOk.no rfl) rfl rfl rfl rfl rfl (Nat.le_of_ble_eq_true rfl) ?_ | refine R.stPB Tryd.sizeOf55 (GOk.no rfl) rfl rfl rfl rfl rfl ?_ | refine R.stB Tryd.sizeOf55 (GOk.no rfl) rfl rfl rfl rfl (Nat.le_of_ble_eq_true rfl) ?_
    refine Run.nil ⟨by kernel_rfl, ?_⟩
    refine J.seq ?_
    refine J.region ?_
    refine R.mkMap (GOk.no rfl) rfl ?_
    refine R.insert Tryd.underlying57 Tryd.underlying3 rfl (GOk.no rfl) rfl rfl rfl rfl rfl ?_
    refine R.mkFunc [] [((.tmp 8), _)] rfl rfl (GOk.no rfl) rfl ⟨rfl, trivial⟩ ?_
    refine R.insert Tryd.underlying57 Tryd.underlying3 rfl (GOk.no rfl) rfl rfl rfl rfl rfl ?_
    refine R.mkFunc [] [((.tmp 8), _)] rfl rfl (GOk.no rfl) rfl ⟨rfl, trivial⟩ ?_
    refine R.insert Tryd.underlying57 Tryd.underlying3 rfl (GOk.no rfl) rfl rfl rfl rfl rfl ?_
    refine R.mkFunc [] [((.tmp 14), _)] rfl rfl (GOk.no rfl) rfl ⟨rfl, trivial⟩ ?_
    refine R.insert Tryd.underlying57 Tryd.underlying3 rfl (GOk.no rfl) rfl rfl rfl rfl rfl ?_
    refine R.mkFunc [] [((.tmp 14), _)] rfl rfl (GOk.no rfl) rfl ⟨rfl, trivial⟩ ?_
    refine R.insert Tryd.underlying57 Tryd.underlying3 rfl (GOk.no rfl) rfl rfl rfl rfl rfl ?_
    refine R.mkFunc [] [((.tmp 13), _)] rfl rfl (GOk.no rfl) rfl ⟨rfl, trivial⟩ ?_
    refine R.insert Tryd.underlying57 Tryd.underlying3 rfl (GOk.no rfl) rfl rfl rfl rfl rfl ?_
    refine R.mkFunc [] [((.tmp 13), _), ((.tmp 8), _)] rfl rfl (GOk.no rfl) rfl ⟨rfl, rfl, trivial⟩ ?_
    refine R.insert Tryd.underlying57 Tryd.underlying3 rfl (GOk.no rfl) rfl rfl rfl rfl rfl ?_
    refine R.mkFunc [] [((.tmp 15), _)] rfl rfl (GOk.no rfl) rfl ⟨rfl, trivial⟩ ?_
    refine R.insert Tryd.underlying57 Tryd.underlying3 rfl (GOk.no rfl) rfl rfl rfl rfl rfl ?_
    refine R.mkFunc [] [((.tmp 15), _)] rfl rfl (GOk.no rfl) rfl ⟨rfl, trivial⟩ ?_
    refine R.insert Tryd.underlying57 Tryd.underlying3 rfl (GOk.no rfl) rfl rfl rfl rfl rfl ?_
    refine R.move (GOk.no rfl) rfl rfl ?_
    refine R.assign (GOk.no rfl) rfl rfl ?_
    refine Run.nil ⟨by kernel_rfl, ?_⟩
    refine J.seq ?_
    refine J.region ?_
    refine R.move (GOk.no rfl) rfl rfl ?_
    first | refine R.fldPtr Tryd.underlying32 rfl Tryd.sizeOf3 rfl (GOk.no rfl) rfl rfl ?_ | refine R.fldAt Tryd.underlying32 rfl Tryd.sizeOf3 rfl (GOk.no rfl) rfl rfl ?_ | refine R.fldEl Tryd.underlying32 rfl Tryd.sizeOf3 rfl (GOk.no rfl) rfl rfl ?_
    refine R.ldP1 Tryd.isAgg3 (GOk.no rfl) rfl rfl rfl rfl ?_
    refine R.spell 61 rfl (show _ = vI 2 from vI_eq (by first | exact hk | (rw [show (j : Int).toNat = j from rfl]; exact hk))) ?_
    refine R.look1 Tryd.underlying57 Tryd.underlying3 rfl Tryd.zeroValue56 (GOk.no rfl) rfl rfl rfl rfl rfl rfl ?_
    refine R.callV (first := []) (caps := [8]) [] true ((con_26 l[j]!).ren (rn [(1003, 3), (1008, 8), (1013, 13), (1014, 14), (1015, 15)]) rfl) rfl (GOk.no rfl) (fun d h => by cases h; rfl) rfl trivial ⟨rfl, trivial⟩ rfl (fun _ => ⟨rfl, trivial⟩) ?_
    refine R.extract (GOk.no rfl) rfl rfl rfl ?_
    refine R.extract (GOk.no rfl) rfl rfl rfl ?_
    refine R.assign (GOk.no rfl) rfl rfl ?_
    refine R.assign (GOk.no rfl) rfl rfl ?_
    refine Run.nil ⟨by kernel_rfl, ?_⟩
    refine J.ret ?_
    exact FinQ.of ⟨ret_eq rfl (rfl), ret_eq rfl (rfl), trivial⟩ ⟨rfl, rfl, trivial⟩
theorem b14_3 (l : List Nd) (hl : l.length ≤ 1000000) (j : Nat) (hj : j < l.length) (level : Int) (hlev : level ≤ 3) (hk : (l[j]!).kind = 3) (hs : (l[j]!).text.size ≤ 1000000000) :
    Con Tryd.prog 14 [sD l, sI (j : Int), sI level] [(2000, some (lvO m)), (2002, some (pow10 q))] [sS (⟨#[34]⟩ ++ (l[j]!).text ++ ⟨#[34]⟩), sI (0)] [(2000, some (lvO m)), (2002, some (pow10 q))] [] := by
  refine con_of_J [] Tryd.func14 rfl rfl Tryd.ntmps14 rfl (Nat.le_of_ble_eq_true rfl) rfl rfl ?_
  refine J.seq ?_
  refine J.region ?_
  first | refine R.boxP rfl (GOk.no rfl) rfl rfl ?_ | refine R.boxA (GOk.no rfl) rfl rfl rfl ?_
  refine R.assign (GOk.no rfl) rfl rfl ?_
  refine R.assign (GOk.no rfl) rfl rfl ?_
  refine Run.nil ⟨by kernel_rfl, ?_⟩
  refine J.seq ?_
  refine J.region ?_
  first | refine R.fldPtr Tryd.underlying24 rfl Tryd.sizeOf22 rfl (GOk.no rfl) rfl rfl ?_ | refine R.fldAt Tryd.underlying24 rfl Tryd.sizeOf22 rfl (GOk.no rfl) rfl rfl ?_ | refine R.fldEl Tryd.underlying24 rfl Tryd.sizeOf22 rfl (GOk.no rfl) rfl rfl ?_
  first | refine R.ldP1 Tryd.isAgg22 (GOk.no rfl) rfl rfl rfl rfl ?_ | refine R.ldAt1 Tryd.isAgg22 (GOk.no rfl) rfl rfl rfl ?_ | refine R.ldB1 Tryd.isAgg22 (GOk.no rfl) rfl rfl rfl rfl ?_ | refine R.ldElM1 Tryd.isAgg22 (GOk.no rfl) rfl rfl rfl (by omega) rfl ?_
  refine R.move (GOk.no rfl) rfl rfl ?_
  refine R.idxM Tryd.underlying22 Tryd.sizeOf32 (GOk.no rfl) rfl rfl rfl (by omega) (by omega) ?_
  first | refine R.ldPA Tryd.isAgg32 Tryd.sizeOf32 (GOk.no rfl) rfl rfl rfl (Nat.le_of_ble_eq_true rfl) ?_ | refine R.ldAtA Tryd.isAgg32 Tryd.sizeOf32 (GOk.no rfl) rfl rfl (Nat.le_of_ble_eq_true rfl) ?_ | refine R.ldBA Tryd.isAgg32 Tryd.sizeOf32 (GOk.no rfl) rfl rfl rfl (Nat.le_of_ble_eq_true rfl) ?_ | refine R.ldElMA Tryd.isAgg32 Tryd.sizeOf32 (GOk.no rfl) rfl rfl rfl (by omega) (Nat.le_of_ble_eq_true rfl) ?_
  refine R.alloc _ (GOk.no rfl) rfl _ Tryd.zeroValue32 rfl rfl ?_
  first | refine R.stP Tryd.sizeOf32 (GOk.no rfl) rfl rfl rfl rfl rfl (Nat.le_of_ble_eq_true rfl) ?_ | refine R.stPB Tryd.sizeOf32 (GOk.no rfl) rfl rfl rfl rfl rfl ?_ | refine R.stB Tryd.sizeOf32 (GOk.no rfl) rfl rfl rfl rfl (Nat.le_of_ble_eq_true rfl) ?_
  refine Run.nil ⟨by kernel_rfl, ?_⟩
  refine J.seq ?_
  refine J.region ?_
  refine R.ldGM (κ := 2000) Tryd.isAgg52 (GOk.no rfl) rfl rfl ?_
  first | refine R.fldPtr Tryd.underlying32 rfl Tryd.sizeOf3 rfl (GOk.no rfl) rfl rfl ?_ | refine R.fldAt Tryd.underlying32 rfl Tryd.sizeOf3 rfl (GOk.no rfl) rfl rfl ?_ | refine R.fldEl Tryd.underlying32 rfl Tryd.sizeOf3 rfl (GOk.no rfl) rfl rfl ?_
  refine R.ldP1 Tryd.isAgg3 (GOk.no rfl) rfl rfl rfl rfl ?_
  refine R.spell 25 rfl (show _ = vI 3 from vI_eq (by first | exact hk | (rw [show (j : Int).toNat = j from rfl]; exact hk))) ?_
  refine R.lookF (z := sI 0) Tryd.underlying52 Tryd.underlying3 rfl Tryd.zeroValue3 (fun _ _ => .v _ rfl) (GOk.no rfl) rfl rfl rfl rfl rfl rfl ?_
  refine R.move (GOk.no rfl) rfl rfl ?_
  refine R.extract (GOk.no rfl) rfl rfl rfl ?_
  refine R.extract (GOk.no rfl) rfl rfl rfl ?_
  refine R.assign (GOk.no rfl) rfl rfl ?_
  refine R.assign (GOk.no rfl) rfl rfl ?_
  refine Run.nil ⟨by kernel_rfl, ?_⟩
  refine J.seq ?_
  refine J.seq ?_
  refine J.region ?_
  refine R.move (GOk.no rfl) rfl rfl ?_
  refine R.not (GOk.no rfl) rfl rfl ?_
  refine Run.nil ⟨by kernel_rfl, ?_⟩
  refine J.condT rfl ?_
  refine J.region ?_
  refine R.assign (GOk.no rfl) rfl rfl ?_
  refine Run.nil ⟨by kernel_rfl, ?_⟩
  refine J.seq ?_
  refine J.seq ?_
  refine J.region ?_
  refine R.move (GOk.no rfl) rfl rfl ?_
  refine R.move (GOk.no rfl) rfl rfl ?_
  refine R.gtr (GOk.no rfl) rfl rfl rfl ?_
  refine Run.nil ⟨by kernel_rfl, ?_⟩
  refine J.cond rfl (fun hc1 => ?_) (fun hc1 => ?_)
  · try simp only [decide_eq_true_eq, decide_eq_false_iff_not, beq_iff_eq, beq_eq_false_iff_ne, bne_iff_ne, bne_eq_false_iff_eq, ne_eq, Bool.not_eq_true', Bool.not_eq_false', Decidable.not_not, Int.toNat_natCast] at hc1
    exfalso; omega
  · try simp only [decide_eq_true_eq, decide_eq_false_iff_not, beq_iff_eq, beq_eq_false_iff_ne, bne_iff_ne, bne_eq_false_iff_eq, ne_eq, Bool.not_eq_true', Bool.not_eq_false', Decidable.not_not, Int.toNat_natCast] at hc1
    refine J.skip ?_
    refine J.seq ?_
    refine J.region ?_
    refine R.mkFunc [] [((.tmp 3), _), ((.tmp 8), _)] rfl rfl (GOk.no rfl) rfl ⟨rfl, rfl, trivial⟩ ?_
    refine R.alloc _ (GOk.no rfl) rfl _ Tryd.zeroValue53 rfl rfl ?_
    first | refine R.stP Tryd.sizeOf53 (GOk.no rfl) rfl rfl rfl rfl rfl (Nat.le_of_ble_eq_true rfl) ?_ | refine R.stPB Tryd.sizeOf53 (GOk.no rfl) rfl rfl rfl rfl rfl ?_ | refine R.stB Tryd.sizeOf53 (GOk.no rfl) rfl rfl rfl rfl (Nat.le_of_ble_eq_true rfl) ?_
    refine Run.nil ⟨by kernel_rfl, ?_⟩
    refine J.seq ?_
    refine J.region ?_
    refine R.mkFunc [] [((.tmp 3), _), ((.tmp 8), _)] rfl rfl (GOk.no rfl) rfl ⟨rfl, rfl, trivial⟩ ?_
    refine R.alloc _ (GOk.no rfl) rfl _ Tryd.zeroValue54 rfl rfl ?_
    first | refine R.stP Tryd.sizeOf54 (GOk.no rfl) rfl rfl rfl rfl rfl (Nat.le_of_ble_eq_true rfl) ?_ | refine R.stPB Tryd.sizeOf54 (GOk.no rfl) rfl rfl rfl rfl rfl ?_ | refine R.stB Tryd.sizeOf54 (GOk.no rfl) rfl rfl rfl rfl (Nat.le_of_ble_eq_true rfl) ?_
    refine Run.nil ⟨by kernel_rfl, ?_⟩
    refine J.seq ?_
    refine J.region ?_
    refine R.mkFunc [] [((.tmp 13), _)] rfl rfl (GOk.no rfl) rfl ⟨rfl, trivial⟩ ?_
    refine R.alloc _ (GOk.no rfl) rfl _ Tryd.zeroValue55 rfl rfl ?_
    first | refine R.stP Tryd.sizeOf55 (GOk.no rfl) rfl rfl rfl rfl rfl (Nat.le_of_ble_eq_true rfl) ?_ | refine R.stPB Tryd.sizeOf55 (GOk.no rfl) rfl rfl rfl rfl rfl ?_ | refine R.stB Tryd.sizeOf55 (GOk.no rfl) rfl rfl rfl rfl (Nat.le_of_ble_eq_true rfl) ?_
    refine Run.nil ⟨by kernel_rfl, ?_⟩
    refine J.seq ?_
    refine J.region ?_
    refine R.mkMap (GOk.no rfl) rfl ?_
    refine R.insert Tryd.underlying57 Tryd.underlying3 rfl (GOk.no rfl) rfl rfl rfl rfl rfl ?_
    refine R.mkFunc [] [((.tmp 8), _)] rfl rfl (GOk.no rfl) rfl ⟨rfl, trivial⟩ ?_
    refine R.insert Tryd.underlying57 Tryd.underlying3 rfl (GOk.no rfl) rfl rfl rfl rfl rfl ?_
    refine R.mkFunc [] [((.tmp 8), _)] rfl rfl (GOk.no rfl) rfl ⟨rfl, trivial⟩ ?_
    refine R.insert Tryd.underlying57 Tryd.underlying3 rfl (GOk.no rfl) rfl rfl rfl rfl rfl ?_
    refine R.mkFunc [] [((.tmp 14), _)] rfl rfl (GOk.no rfl) rfl ⟨rfl, trivial⟩ ?_
    refine R.insert Tryd.underlying57 Tryd.underlying3 rfl (GOk.no rfl) rfl rfl rfl rfl rfl ?_
    refine R.mkFunc [] [((.tmp 14), _)] rfl rfl (GOk.no rfl) rfl ⟨rfl, trivial⟩ ?_
    refine R.insert Tryd.underlying57 Tryd.underlying3 rfl (GOk.no rfl) rfl rfl rfl rfl rfl ?_
    refine R.mkFunc [] [((.tmp 13), _)] rfl rfl (GOk.no rfl) rfl ⟨rfl, trivial⟩ ?_
    refine R.insert Tryd.underlying57 Tryd.underlying3 rfl (GOk.no rfl) rfl rfl rfl rfl rfl ?_
    refine R.mkFunc [] [((.tmp 13), _), ((.tmp 8), _)] rfl rfl (GOk.no rfl) rfl ⟨rfl, rfl, trivial⟩ ?_
    refine R.insert Tryd.underlying57 Tryd.underlying3 rfl (GOk.no rfl) rfl rfl rfl rfl rfl ?_
    refine R.mkFunc [] [((.tmp 15), _)] rfl rfl (GOk.no rfl) rfl ⟨rfl, trivial⟩ ?_
    refine R.insert Tryd.underlying57 Tryd.underlying3 rfl (GOk.no rfl) rfl rfl rfl rfl rfl ?_
    refine R.mkFunc [] [((.tmp 15), _)] rfl rfl (GOk.no rfl) rfl ⟨rfl, trivial⟩ ?_
    refine R.insert Tryd.underlying57 Tryd.underlying3 rfl (GOk.no rfl) rfl rfl rfl rfl rfl ?_
    refine R.move (GOk.no rfl) rfl rfl ?_
    refine R.assign (GOk.no rfl) rfl rfl ?_
    refine Run.nil ⟨by kernel_rfl, ?_⟩
    refine J.seq ?_
    refine J.region ?_
    refine R.move (GOk.no rfl) rfl rfl ?_
    first | refine R.fldPtr Tryd.underlying32 rfl Tryd.sizeOf3 rfl (GOk.no rfl) rfl rfl ?_ | refine R.fldAt Tryd.underlying32 rfl Tryd.sizeOf3 rfl (GOk.no rfl) rfl rfl ?_ | refine R.fldEl Tryd.underlying32 rfl Tryd.sizeOf3 rfl (GOk.no rfl) rfl rfl ?_
    refine R.ldP1 Tryd.isAgg3 (GOk.no rfl) rfl rfl rfl rfl ?_
    refine R.spell 61 rfl (show _ = vI 3 from vI_eq (by first | exact hk | (rw [show (j : Int).toNat = j from rfl]; exact hk))) ?_
    refine R.look1 Tryd.underlying57 Tryd.underlying3 rfl Tryd.zeroValue56 (GOk.no rfl) rfl rfl rfl rfl rfl rfl ?_
    refine R.callV (first := []) (caps := [8]) [] true ((con_27 l[j]! hs).ren (rn [(1003, 3), (1008, 8), (1013, 13), (1014, 14), (1015, 15)]) rfl) rfl (GOk.no rfl) (fun d h => by cases h; rfl) rfl trivial ⟨rfl, trivial⟩ rfl (fun _ => ⟨rfl, trivial⟩) ?_
    refine R.extract (GOk.no rfl) rfl rfl rfl ?_
    refine R.extract (GOk.no rfl) rfl rfl rfl ?_
    refine R.assign (GOk.no rfl) rfl rfl ?_
    refine R.assign (GOk.no rfl) rfl rfl ?_
    refine Run.nil ⟨by kernel_rfl, ?_⟩
    refine J.ret ?_
    exact FinQ.of ⟨ret_eq rfl (rfl), ret_eq rfl (rfl), trivial⟩ ⟨rfl, rfl, trivial⟩
theorem b14_4 (l : List Nd) (hl : l.length ≤ 1000000) (j : Nat) (hj : j < l.length) (level : Int) (hlev : level ≤ 1) (hk : (l[j]!).kind = 4) (s s2 : ByteArray) (x y : Int) (hc : Con Tryd.prog 14 [sD l, sI (l[j]!).a, sI 1] [(2000, some (lvO m)), (2002, some (pow10 q))] [sS s, sI x] [(2000, some (lvO m)), (2002, some (pow10 q))] []) (hc2 : Con Tryd.prog 14 [sD l, sI (l[j]!).b, sI (1 + 1)] [(2000, some (lvO m)), (2002, some (pow10 q))] [sS s2, sI y] [(2000, some (lvO m)), (2002, some (pow10 q))] []) (hs : s.size + s2.size + 1 ≤ 1000000000) :
    Con Tryd.prog 14 [sD l, sI (j : Int), sI level] [(2000, some (lvO m)), (2002, some (pow10 q))] [sS (s ++ ⟨#[]⟩ ++ s2), sI (maxI x y)] [(2000, some (lvO m)), (2002, some (pow10 q))] [] := by
  refine con_of_J [] Tryd.func14 rfl rfl Tryd.ntmps14 rfl (Nat.le_of_ble_eq_true rfl) rfl rfl ?_
  refine J.seq ?_
  refine J.region ?_
  first | refine R.boxP rfl (GOk.no rfl) rfl rfl ?_ | refine R.boxA (GOk.no rfl) rfl rfl rfl ?_
  refine R.assign (GOk.no rfl) rfl rfl ?_
  refine R.assign (GOk.no rfl) rfl rfl ?_
  refine Run.nil ⟨by kernel_rfl, ?_⟩
  refine J.seq ?_
  refine J.region ?_
  first | refine R.fldPtr Tryd.underlying24 rfl Tryd.sizeOf22 rfl (GOk.no rfl) rfl rfl ?_ | refine R.fldAt Tryd.underlying24 rfl Tryd.sizeOf22 rfl (GOk.no rfl) rfl rfl ?_ | refine R.fldEl Tryd.underlying24 rfl Tryd.sizeOf22 rfl (GOk.no rfl) rfl rfl ?_
  first | refine R.ldP1 Tryd.isAgg22 (GOk.no rfl) rfl rfl rfl rfl ?_ | refine R.ldAt1 Tryd.isAgg22 (GOk.no rfl) rfl rfl rfl ?_ | refine R.ldB1 Tryd.isAgg22 (GOk.no rfl) rfl rfl rfl rfl ?_ | refine R.ldElM1 Tryd.isAgg22 (GOk.no rfl) rfl rfl rfl (by omega) rfl ?_
  refine R.move (GOk.no rfl) rfl rfl ?_
  refine R.idxM Tryd.underlying22 Tryd.sizeOf32 (GOk.no rfl) rfl rfl rfl (by omega) (by omega) ?_
  first | refine R.ldPA Tryd.isAgg32 Tryd.sizeOf32 (GOk.no rfl) rfl rfl rfl (Nat.le_of_ble_eq_true rfl) ?_ | refine R.ldAtA Tryd.isAgg32 Tryd.sizeOf32 (GOk.no rfl) rfl rfl (Nat.le_of_ble_eq_true rfl) ?_ | refine R.ldBA Tryd.isAgg32 Tryd.sizeOf32 (GOk.no rfl) rfl rfl rfl (Nat.le_of_ble_eq_true rfl) ?_ | refine R.ldElMA Tryd.isAgg32 Tryd.sizeOf32 (GOk.no rfl) rfl rfl rfl (by omega) (Nat.le_of_ble_eq_true rfl) ?_
  refine R.alloc _ (GOk.no rfl) rfl _ Tryd.zeroValue32 rfl rfl ?_
  first | refine R.stP Tryd.sizeOf32 (GOk.no rfl) rfl rfl rfl rfl rfl (Nat.le_of_ble_eq_true rfl) ?_ | refine R.stPB Tryd.sizeOf32 (GOk.no rfl) rfl rfl rfl rfl rfl ?_ | refine R.stB Tryd.sizeOf32 (GOk.no rfl) rfl rfl rfl rfl (Nat.le_of_ble_eq_true rfl) ?_
  refine Run.nil ⟨by kernel_rfl, ?_⟩
  refine J.seq ?_
  refine J.region ?_
  refine R.ldGM (κ := 2000) Tryd.isAgg52 (GOk.no rfl) rfl rfl ?_
  first | refine R.fldPtr Tryd.underlying32 rfl Tryd.sizeOf3 rfl (GOk.no rfl) rfl rfl ?_ | refine R.fldAt Tryd.underlying32 rfl Tryd.sizeOf3 rfl (GOk.no rfl) rfl rfl ?_ | refine R.fldEl Tryd.underlying32 rfl Tryd.sizeOf3 rfl (GOk.no rfl) rfl rfl ?_
  refine R.ldP1 Tryd.isAgg3 (GOk.no rfl) rfl rfl rfl rfl ?_
  refine R.spell 25 rfl (show _ = vI 4 from vI_eq (by first | exact hk | (rw [show (j : Int).toNat = j from rfl]; exact hk))) ?_
  refine R.lookT Tryd.underlying52 Tryd.underlying3 rfl Tryd.zeroValue3 (GOk.no rfl) rfl rfl rfl rfl rfl rfl ?_
  refine R.move (GOk.no rfl) rfl rfl ?_
  refine R.extract (GOk.no rfl) rfl rfl rfl ?_
  refine R.extract (GOk.no rfl) rfl rfl rfl ?_
  refine R.assign (GOk.no rfl) rfl rfl ?_
  refine R.assign (GOk.no rfl) rfl rfl ?_
  refine Run.nil ⟨by kernel_rfl, ?_⟩
  refine J.seq ?_
  refine J.seq ?_
  refine J.region ?_
  refine R.move (GOk.no rfl) rfl rfl ?_
  refine R.not (GOk.no rfl) rfl rfl ?_
  refine Run.nil ⟨by kernel_rfl, ?_⟩
  refine J.condF rfl ?_
  refine J.skip ?_
  refine J.seq ?_
  refine J.seq ?_
  refine J.region ?_
  refine R.move (GOk.no rfl) rfl rfl ?_
  refine R.move (GOk.no rfl) rfl rfl ?_
  refine R.gtr (GOk.no rfl) rfl rfl rfl ?_
  refine Run.nil ⟨by kernel_rfl, ?_⟩
  refine J.cond rfl (fun hc1 => ?_) (fun hc1 => ?_)
  · try simp only [decide_eq_true_eq, decide_eq_false_iff_not, beq_iff_eq, beq_eq_false_iff_ne, bne_iff_ne, bne_eq_false_iff_eq, ne_eq, Bool.not_eq_true', Bool.not_eq_false', Decidable.not_not, Int.toNat_natCast] at hc1
    exfalso; omega
  · try simp only [decide_eq_true_eq, decide_eq_false_iff_not, beq_iff_eq, beq_eq_false_iff_ne, bne_iff_ne, bne_eq_false_iff_eq, ne_eq, Bool.not_eq_true', Bool.not_eq_false', Decidable.not_not, Int.toNat_natCast] at hc1
    refine J.skip ?_
    refine J.seq ?_
    refine J.region ?_
    refine R.mkFunc [] [((.tmp 3), _), ((.tmp 8), _)] rfl rfl (GOk.no rfl) rfl ⟨rfl, rfl, trivial⟩ ?_
    refine R.alloc _ (GOk.no rfl) rfl _ Tryd.zeroValue53 rfl rfl ?_
    first | refine R.stP Tryd.sizeOf53 (GOk.no rfl) rfl rfl rfl rfl rfl (Nat.le_of_ble_eq_true rfl) ?_ | refine R.stPB Tryd.sizeOf53 (GOk.no rfl) rfl rfl rfl rfl rfl ?_ | refine R.stB Tryd.sizeOf53 (GOk.no rfl) rfl rfl rfl rfl (Nat.le_of_ble_eq_true rfl) ?_
    refine Run.nil ⟨by kernel_rfl, ?_⟩
    refine J.seq ?_
    refine J.region ?_
    refine R.mkFunc [] [((.tmp 3), _), ((.tmp 8), _)] rfl rfl (GOk.no rfl) rfl ⟨rfl, rfl, trivial⟩ ?_
    refine R.alloc _ (GOk.no rfl) rfl _ Tryd.zeroValue54 rfl rfl ?_
    first | refine R.stP Tryd.sizeOf54 (GOk.no rfl) rfl rfl rfl rfl rfl (Nat.le_of_ble_eq_true rfl) ?_ | refine R.stPB Tryd.sizeOf54 (GOk.no rfl) rfl rfl rfl rfl rfl ?_ | refine R.stB Tryd.sizeOf54 (GOk.no rfl) rfl rfl rfl rfl (Nat.le_of_ble_eq_true rfl) ?_
    refine Run.nil ⟨by kernel_rfl, ?_⟩
    refine J.seq ?_
    refine J.region ?_
    refine R.mkFunc [] [((.tmp 13), _)] rfl rfl (GOk.no rfl) rfl ⟨rfl, trivial⟩ ?_
    refine R.alloc _ (GOk.no rfl) rfl _ Tryd.zeroValue55 rfl rfl ?_
    first | refine R.stP Tryd.sizeOf55 (GOk.no rfl) rfl rfl rfl rfl rfl (Nat.le_of_ble_eq_true rfl) ?_ | refine R.stPB Tryd.sizeOf55 (GOk.no rfl) rfl rfl rfl rfl rfl ?_ | refine R.stB Tryd.sizeOf55 (GOk.no rfl) rfl rfl rfl rfl (Nat.le_of_ble_eq_true rfl) ?_
    refine Run.nil ⟨by kernel_rfl, ?_⟩
    refine J.seq ?_
    refine J.region ?_
    refine R.mkMap (GOk.no rfl) rfl ?_
    refine R.insert Tryd.underlying57 Tryd.underlying3 rfl (GOk.no rfl) rfl rfl rfl rfl rfl ?_
    refine R.mkFunc [] [((.tmp 8), _)] rfl rfl (GOk.no rfl) rfl ⟨rfl, trivial⟩ ?_
    refine R.insert Tryd.underlying57 Tryd.underlying3 rfl (GOk.no rfl) rfl rfl rfl rfl rfl ?_
    refine R.mkFunc [] [((.tmp 8), _)] rfl rfl (GOk.no rfl) rfl ⟨rfl, trivial⟩ ?_
    refine R.insert Tryd.underlying57 Tryd.underlying3 rfl (GOk.no rfl) rfl rfl rfl rfl rfl ?_
    refine R.mkFunc [] [((.tmp 14), _)] rfl rfl (GOk.no rfl) rfl ⟨rfl, trivial⟩ ?_
    refine R.insert Tryd.underlying57 Tryd.underlying3 rfl (GOk.no rfl) rfl rfl rfl rfl rfl ?_
    refine R.mkFunc [] [((.tmp 14), _)] rfl rfl (GOk.no rfl) rfl ⟨rfl, trivial⟩ ?_
    refine R.insert Tryd.underlying57 Tryd.underlying3 rfl (GOk.no rfl) rfl rfl rfl rfl rfl ?_
    refine R.mkFunc [] [((.tmp 13), _)] rfl rfl (GOk.no rfl) rfl ⟨rfl, trivial⟩ ?_
    refine R.insert Tryd.underlying57 Tryd.underlying3 rfl (GOk.no rfl) rfl rfl rfl rfl rfl ?_
    refine R.mkFunc [] [((.tmp 13), _), ((.tmp 8), _)] rfl rfl (GOk.no rfl) rfl ⟨rfl, rfl, trivial⟩ ?_
    refine R.insert Tryd.underlying57 Tryd.underlying3 rfl (GOk.no rfl) rfl rfl rfl rfl rfl ?_
    refine R.mkFunc [] [((.tmp 15), _)] rfl rfl (GOk.no rfl) rfl ⟨rfl, trivial⟩ ?_
    refine R.insert Tryd.underlying57 Tryd.underlying3 rfl (GOk.no rfl) rfl rfl rfl rfl rfl ?_
    refine R.mkFunc [] [((.tmp 15), _)] rfl rfl (GOk.no rfl) rfl ⟨rfl, trivial⟩ ?_
    refine R.insert Tryd.underlying57 Tryd.underlying3 rfl (GOk.no rfl) rfl rfl rfl rfl rfl ?_
    refine R.move (GOk.no rfl) rfl rfl ?_
    refine R.assign (GOk.no rfl) rfl rfl ?_
    refine Run.nil ⟨by kernel_rfl, ?_⟩
    refine J.seq ?_
    refine J.region ?_
    refine R.move (GOk.no rfl) rfl rfl ?_
    first | refine R.fldPtr Tryd.underlying32 rfl Tryd.sizeOf3 rfl (GOk.no rfl) rfl rfl ?_ | refine R.fldAt Tryd.underlying32 rfl Tryd.sizeOf3 rfl (GOk.no rfl) rfl rfl ?_ | refine R.fldEl Tryd.underlying32 rfl Tryd.sizeOf3 rfl (GOk.no rfl) rfl rfl ?_
    refine R.ldP1 Tryd.isAgg3 (GOk.no rfl) rfl rfl rfl rfl ?_
    refine R.spell 61 rfl (show _ = vI 4 from vI_eq (by first | exact hk | (rw [show (j : Int).toNat = j from rfl]; exact hk))) ?_
    refine R.look1 Tryd.underlying57 Tryd.underlying3 rfl Tryd.zeroValue56 (GOk.no rfl) rfl rfl rfl rfl rfl rfl ?_
    refine R.callV (first := []) (caps := [14]) [] true ((con_28 l l[j]! s s2 x y hc hc2 hs).ren (rn [(1003, 3), (1008, 8), (1013, 13), (1014, 14), (1015, 15)]) rfl) rfl (GOk.no rfl) (fun d h => by cases h; rfl) rfl trivial ⟨rfl, rfl, rfl, rfl, rfl, trivial⟩ rfl (fun _ => ⟨rfl, rfl, rfl, rfl, rfl, trivial⟩) ?_
    refine R.extract (GOk.no rfl) rfl rfl rfl ?_
    refine R.extract (GOk.no rfl) rfl rfl rfl ?_
    refine R.assign (GOk.no rfl) rfl rfl ?_
    refine R.assign (GOk.no rfl) rfl rfl ?_
    refine Run.nil ⟨by kernel_rfl, ?_⟩
    refine J.ret ?_
    exact FinQ.of ⟨ret_eq rfl (rfl), ret_eq rfl (rfl), trivial⟩ ⟨rfl, rfl, trivial⟩
theorem b14_5 (l : List Nd) (hl : l.length ≤ 1000000) (j : Nat) (hj : j < l.length) (level : Int) (hlev : level ≤ 0) (hk : (l[j]!).kind = 5) (s s2 : ByteArray) (x y : Int) (hc : Con Tryd.prog 14 [sD l, sI (l[j]!).a, sI 0] [(2000, some (lvO m)), (2002, some (pow10 q))] [sS s, sI x] [(2000, some (lvO m)), (2002, some (pow10 q))] []) (hc2 : Con Tryd.prog 14 [sD l, sI (l[j]!).b, sI (0 + 1)] [(2000, some (lvO m)), (2002, some (pow10 q))] [sS s2, sI y] [(2000, some (lvO m)), (2002, some (pow10 q))] []) (hs : s.size + s2.size + 1 ≤ 1000000000) :
    Con Tryd.prog 14 [sD l, sI (j : Int), sI level] [(2000, some (lvO m)), (2002, some (pow10 q))] [sS (s ++ ⟨#[124]⟩ ++ s2), sI (maxI x y)] [(2000, some (lvO m)), (2002, some (pow10 q))] [] := by
  refine con_of_J [] Tryd.func14 rfl rfl Tryd.ntmps14 rfl (Nat.le_of_ble_eq_true rfl) rfl rfl ?_
  refine J.seq ?_
  refine J.region ?_
  first | refine R.boxP rfl (GOk.no rfl) rfl rfl ?_ | refine R.boxA (GOk.no rfl) rfl rfl rfl ?_
  refine R.assign (GOk.no rfl) rfl rfl ?_
  refine R.assign (GOk.no rfl) rfl rfl ?_
  refine Run.nil ⟨by kernel_rfl, ?_⟩
  refine J.seq ?_
  refine J.region ?_
  first | refine R.fldPtr Tryd.underlying24 rfl Tryd.sizeOf22 rfl (GOk.no rfl) rfl rfl ?_ | refine R.fldAt Tryd.underlying24 rfl Tryd.sizeOf22 rfl (GOk.no rfl) rfl rfl ?_ | refine R.fldEl Tryd.underlying24 rfl Tryd.sizeOf22 rfl (GOk.no rfl) rfl rfl ?_
  first | refine R.ldP1 Tryd.isAgg22 (GOk.no rfl) rfl rfl rfl rfl ?_ | refine R.ldAt1 Tryd.isAgg22 (GOk.no rfl) rfl rfl rfl ?_ | refine R.ldB1 Tryd.isAgg22 (GOk.no rfl) rfl rfl rfl rfl ?_ | refine R.ldElM1 Tryd.isAgg22 (GOk.no rfl) rfl rfl rfl (by omega) rfl ?_
  refine R.move (GOk.no rfl) rfl rfl ?_
  refine R.idxM Tryd.underlying22 Tryd.sizeOf32 (GOk.no rfl) rfl rfl rfl (by omega) (by omega) ?_
  first | refine R.ldPA Tryd.isAgg32 Tryd.sizeOf32 (GOk.no rfl) rfl rfl rfl (Nat.le_of_ble_eq_true rfl) ?_ | refine R.ldAtA Tryd.isAgg32 Tryd.sizeOf32 (GOk.no rfl) rfl rfl (Nat.le_of_ble_eq_true rfl) ?_ | refine R.ldBA Tryd.isAgg32 Tryd.sizeOf32 (GOk.no rfl) rfl rfl rfl (Nat.le_of_ble_eq_true rfl) ?_ | refine R.ldElMA Tryd.isAgg32 Tryd.sizeOf32 (GOk.no rfl) rfl rfl rfl (by omega) (Nat.le_of_ble_eq_true rfl) ?_
  refine R.alloc _ (GOk.no rfl) rfl _ Tryd.zeroValue32 rfl rfl ?_
  first | refine R.stP Tryd.sizeOf32 (GOk.no rfl) rfl rfl rfl rfl rfl (Nat.le_of_ble_eq_true rfl) ?_ | refine R.stPB Tryd.sizeOf32 (GOk.no rfl) rfl rfl rfl rfl rfl ?_ | refine R.stB Tryd.sizeOf32 (GOk.no rfl) rfl rfl rfl rfl (Nat.le_of_ble_eq_true rfl) ?_
  refine Run.nil ⟨by kernel_rfl, ?_⟩
  refine J.seq ?_
  refine J.region ?_
  refine R.ldGM (κ := 2000) Tryd.isAgg52 (GOk.no rfl) rfl rfl ?_
  first | refine R.fldPtr Tryd.underlying32 rfl Tryd.sizeOf3 rfl (GOk.no rfl) rfl rfl ?_ | refine R.fldAt Tryd.underlying32 rfl Tryd.sizeOf3 rfl (GOk.no rfl) rfl rfl ?_ | refine R.fldEl Tryd.underlying32 rfl Tryd.sizeOf3 rfl (GOk.no rfl) rfl rfl ?_
  refine R.ldP1 Tryd.isAgg3 (GOk.no rfl) rfl rfl rfl rfl ?_
  refine R.spell 25 rfl (show _ = vI 5 from vI_eq (by first | exact hk | (rw [show (j : Int).toNat = j from rfl]; exact hk))) ?_
  refine R.lookT Tryd.underlying52 Tryd.underlying3 rfl Tryd.zeroValue3 (GOk.no rfl) rfl rfl rfl rfl rfl rfl ?_
  refine R.move (GOk.no rfl) rfl rfl ?_
  refine R.extract (GOk.no rfl) rfl rfl rfl ?_
  refine R.extract (GOk.no rfl) rfl rfl rfl ?_
  refine R.assign (GOk.no rfl) rfl rfl ?_
  refine R.assign (GOk.no rfl) rfl rfl ?_
  refine Run.nil ⟨by kernel_rfl, ?_⟩
  refine J.seq ?_
  refine J.seq ?_
  refine J.region ?_
  refine R.move (GOk.no rfl) rfl rfl ?_
  refine R.not (GOk.no rfl) rfl rfl ?_
  refine Run.nil ⟨by kernel_rfl, ?_⟩
  refine J.condF rfl ?_
  refine J.skip ?_
  refine J.seq ?_
  refine J.seq ?_
  refine J.region ?_
  refine R.move (GOk.no rfl) rfl rfl ?_
  refine R.move (GOk.no rfl) rfl rfl ?_
  refine R.gtr (GOk.no rfl) rfl rfl rfl ?_
  refine Run.nil ⟨by kernel_rfl, ?_⟩
  refine J.cond rfl (fun hc1 => ?_) (fun hc1 => ?_)
  · try simp only [decide_eq_true_eq, decide_eq_false_iff_not, beq_iff_eq, beq_eq_false_iff_ne, bne_iff_ne, bne_eq_false_iff_eq, ne_eq, Bool.not_eq_true', Bool.not_eq_false', Decidable.not_not, Int.toNat_natCast] at hc1
    exfalso; omega
  · try simp only [decide_eq_true_eq, decide_eq_false_iff_not, beq_iff_eq, beq_eq_false_iff_ne, bne_iff_ne, bne_eq_false_iff_eq, ne_eq, Bool.not_eq_true', Bool.not_eq_false', Decidable.not_not, Int.toNat_natCast] at hc1
    refine J.skip ?_
    refine J.seq ?_
    refine J.region ?_
    refine R.mkFunc [] [((.tmp 3), _), ((.tmp 8), _)] rfl rfl (GOk.no rfl) rfl ⟨rfl, rfl, trivial⟩ ?_
    refine R.alloc _ (GOk.no rfl) rfl _ Tryd.zeroValue53 rfl rfl ?_
    first | refine R.stP Tryd.sizeOf53 (GOk.no rfl) rfl rfl rfl rfl rfl (Nat.le_of_ble_eq_true rfl) ?_ | refine R.stPB Tryd.sizeOf53 (GOk.no rfl) rfl rfl rfl rfl rfl ?_ | refine R.stB Tryd.sizeOf53 (GOk.no rfl) rfl rfl rfl rfl (Nat.le_of_ble_eq_true rfl) ?_
    refine Run.nil ⟨by kernel_rfl, ?_⟩
    refine J.seq ?_
    refine J.region ?_
    refine R.mkFunc [] [((.tmp 3), _), ((.tmp 8), _)] rfl rfl (GOk.no rfl) rfl ⟨rfl, rfl, trivial⟩ ?_
    refine R.alloc _ (GOk.no rfl) rfl _ Tryd.zeroValue54 rfl rfl ?_
    first | refine R.stP Tryd.sizeOf54 (GOk.no rfl) rfl rfl rfl rfl rfl (Nat.le_of_ble_eq_true rfl) ?_ | refine R.stPB Tryd.sizeOf54 (GOk.no rfl) rfl rfl rfl rfl rfl ?_ | refine R.stB Tryd.sizeOf54 (GOk.no rfl) rfl rfl rfl rfl (Nat.le_of_ble_eq_true rfl) ?_
    refine Run.nil ⟨by kernel_rfl, ?_⟩
    refine J.seq ?_
    refine J.region ?_
    refine R.mkFunc [] [((.tmp 13), _)] rfl rfl (GOk.no rfl) rfl ⟨rfl, trivial⟩ ?_
    refine R.alloc _ (GOk.no rfl) rfl _ Tryd.zeroValue55 rfl rfl ?_
    first | refine R.stP Tryd.sizeOf55 (GOk.no rfl) rfl rfl rfl rfl rfl (Nat.le_of_ble_eq_true rfl) ?_ | refine R.stPB Tryd.sizeOf55 (GOk.no rfl) rfl rfl rfl rfl rfl ?_ | refine R.stB Tryd.sizeOf55 (GOk.no rfl) rfl rfl rfl rfl (Nat.le_of_ble_eq_true rfl) ?_
    refine Run.nil ⟨by kernel_rfl, ?_⟩
    refine J.seq ?_
    refine J.region ?_
    refine R.mkMap (GOk.no rfl) rfl ?_
    refine R.insert Tryd.underlying57 Tryd.underlying3 rfl (GOk.no rfl) rfl rfl rfl rfl rfl ?_
    refine R.mkFunc [] [((.tmp 8), _)] rfl rfl (GOk.no rfl) rfl ⟨rfl, trivial⟩ ?_
    refine R.insert Tryd.underlying57 Tryd.underlying3 rfl (GOk.no rfl) rfl rfl rfl rfl rfl ?_
    refine R.mkFunc [] [((.tmp 8), _)] rfl rfl (GOk.no rfl) rfl ⟨rfl, trivial⟩ ?_
    refine R.insert Tryd.underlying57 Tryd.underlying3 rfl (GOk.no rfl) rfl rfl rfl rfl rfl ?_
    refine R.mkFunc [] [((.tmp 14), _)] rfl rfl (GOk.no rfl) rfl ⟨rfl, trivial⟩ ?_
    refine R.insert Tryd.underlying57 Tryd.underlying3 rfl (GOk.no rfl) rfl rfl rfl rfl rfl ?_
    refine R.mkFunc [] [((.tmp 14), _)] rfl rfl (GOk.no rfl) rfl ⟨rfl, trivial⟩ ?_
    refine R.insert Tryd.underlying57 Tryd.underlying3 rfl (GOk.no rfl) rfl rfl rfl rfl rfl ?_
    refine R.mkFunc [] [((.tmp 13), _)] rfl rfl (GOk.no rfl) rfl ⟨rfl, trivial⟩ ?_
    refine R.insert Tryd.underlying57 Tryd.underlying3 rfl (GOk.no rfl) rfl rfl rfl rfl rfl ?_
    refine R.mkFunc [] [((.tmp 13), _), ((.tmp 8), _)] rfl rfl (GOk.no rfl) rfl ⟨rfl, rfl, trivial⟩ ?_
    refine R.insert Tryd.underlying57 Tryd.underlying3 rfl (GOk.no rfl) rfl rfl rfl rfl rfl ?_
    refine R.mkFunc [] [((.tmp 15), _)] rfl rfl (GOk.no rfl) rfl ⟨rfl, trivial⟩ ?_
    refine R.insert Tryd.underlying57 Tryd.underlying3 rfl (GOk.no rfl) rfl rfl rfl rfl rfl ?_
    refine R.mkFunc [] [((.tmp 15), _)] rfl rfl (GOk.no rfl) rfl ⟨rfl, trivial⟩ ?_
    refine R.insert Tryd.underlying57 Tryd.underlying3 rfl (GOk.no rfl) rfl rfl rfl rfl rfl ?_
    refine R.move (GOk.no rfl) rfl rfl ?_
    refine R.assign (GOk.no rfl) rfl rfl ?_
    refine Run.nil ⟨by kernel_rfl, ?_⟩
    refine J.seq ?_
    refine J.region ?_
    refine R.move (GOk.no rfl) rfl rfl ?_
    first | refine R.fldPtr Tryd.underlying32 rfl Tryd.sizeOf3 rfl (GOk.no rfl) rfl rfl ?_ | refine R.fldAt Tryd.underlying32 rfl Tryd.sizeOf3 rfl (GOk.no rfl) rfl rfl ?_ | refine R.fldEl Tryd.underlying32 rfl Tryd.sizeOf3 rfl (GOk.no rfl) rfl rfl ?_
    refine R.ldP1 Tryd.isAgg3 (GOk.no rfl) rfl rfl rfl rfl ?_
    refine R.spell 61 rfl (show _ = vI 5 from vI_eq (by first | exact hk | (rw [show (j : Int).toNat = j from rfl]; exact hk))) ?_
    refine R.look1 Tryd.underlying57 Tryd.underlying3 rfl Tryd.zeroValue56 (GOk.no rfl) rfl rfl rfl rfl rfl rfl ?_
    refine R.callV (first := []) (caps := [14]) [] true ((con_29 l l[j]! s s2 x y hc hc2 hs).ren (rn [(1003, 3), (1008, 8), (1013, 13), (1014, 14), (1015, 15)]) rfl) rfl (GOk.no rfl) (fun d h => by cases h; rfl) rfl trivial ⟨rfl, rfl, rfl, rfl, rfl, trivial⟩ rfl (fun _ => ⟨rfl, rfl, rfl, rfl, rfl, trivial⟩) ?_
    refine R.extract (GOk.no rfl) rfl rfl rfl ?_
    refine R.extract (GOk.no rfl) rfl rfl rfl ?_
    refine R.assign (GOk.no rfl) rfl rfl ?_
    refine R.assign (GOk.no rfl) rfl rfl ?_
    refine Run.nil ⟨by kernel_rfl, ?_⟩
    refine J.ret ?_
    exact FinQ.of ⟨ret_eq rfl (rfl), ret_eq rfl (rfl), trivial⟩ ⟨rfl, rfl, trivial⟩
theorem b14_6 (l : List Nd) (hl : l.length ≤ 1000000) (j : Nat) (hj : j < l.length) (level : Int) (hlev : level ≤ 2) (hk : (l[j]!).kind = 6) (s : ByteArray) (x : Int) (hc : Con Tryd.prog 14 [sD l, sI (l[j]!).a, sI 2] [(2000, some (lvO m)), (2002, some (pow10 q))] [sS s, sI x] [(2000, some (lvO m)), (2002, some (pow10 q))] []) (hs : s.size + 3 ≤ 100000000) :
    Con Tryd.prog 14 [sD l, sI (j : Int), sI level] [(2000, some (lvO m)), (2002, some (pow10 q))] [sS (⟨#[]⟩ ++ s ++ ⟨#[42]⟩), sI (x)] [(2000, some (lvO m)), (2002, some (pow10 q))] [] := by
  refine con_of_J [] Tryd.func14 rfl rfl Tryd.ntmps14 rfl (Nat.le_of_ble_eq_true rfl) rfl rfl ?_
  refine J.seq ?_
  refine J.region ?_
  first | refine R.boxP rfl (GOk.no rfl) rfl rfl ?_ | refine R.boxA (GOk.no rfl) rfl rfl rfl ?_
  refine R.assign (GOk.no rfl) rfl rfl ?_
  refine R.assign (GOk.no rfl) rfl rfl ?_
  refine Run.nil ⟨by kernel_rfl, ?_⟩
  refine J.seq ?_
  refine J.region ?_
  first | refine R.fldPtr Tryd.underlying24 rfl Tryd.sizeOf22 rfl (GOk.no rfl) rfl rfl ?_ | refine R.fldAt Tryd.underlying24 rfl Tryd.sizeOf22 rfl (GOk.no rfl) rfl rfl ?_ | refine R.fldEl Tryd.underlying24 rfl Tryd.sizeOf22 rfl (GOk.no rfl) rfl rfl ?_
  first | refine R.ldP1 Tryd.isAgg22 (GOk.no rfl) rfl rfl rfl rfl ?_ | refine R.ldAt1 Tryd.isAgg22 (GOk.no rfl) rfl rfl rfl ?_ | refine R.ldB1 Tryd.isAgg22 (GOk.no rfl) rfl rfl rfl rfl ?_ | refine R.ldElM1 Tryd.isAgg22 (GOk.no rfl) rfl rfl rfl (by omega) rfl ?_
  refine R.move (GOk.no rfl) rfl rfl ?_
  refine R.idxM Tryd.underlying22 Tryd.sizeOf32 (GOk.no rfl) rfl rfl rfl (by omega) (by omega) ?_
  first | refine R.ldPA Tryd.isAgg32 Tryd.sizeOf32 (GOk.no rfl) rfl rfl rfl (Nat.le_of_ble_eq_true rfl) ?_ | refine R.ldAtA Tryd.isAgg32 Tryd.sizeOf32 (GOk.no rfl) rfl rfl (Nat.le_of_ble_eq_true rfl) ?_ | refine R.ldBA Tryd.isAgg32 Tryd.sizeOf32 (GOk.no rfl) rfl rfl rfl (Nat.le_of_ble_eq_true rfl) ?_ | refine R.ldElMA Tryd.isAgg32 Tryd.sizeOf32 (GOk.no rfl) rfl rfl rfl (by omega) (Nat.le_of_ble_eq_true rfl) ?_
  refine R.alloc _ (GOk.no rfl) rfl _ Tryd.zeroValue32 rfl rfl ?_
  first | refine R.stP Tryd.sizeOf32 (GOk.no rfl) rfl rfl rfl rfl rfl (Nat.le_of_ble_eq_true rfl) ?_ | refine R.stPB Tryd.sizeOf32 (GOk.no rfl) rfl rfl rfl rfl rfl ?_ | refine R.stB Tryd.sizeOf32 (GOk.no rfl) rfl rfl rfl rfl (Nat.le_of_ble_eq_true rfl) ?_
  refine Run.nil ⟨by kernel_rfl, ?_⟩
  refine J.seq ?_
  refine J.region ?_
  refine R.ldGM (κ := 2000) Tryd.isAgg52 (GOk.no rfl) rfl rfl ?_
  first | refine R.fldPtr Tryd.underlying32 rfl Tryd.sizeOf3 rfl (GOk.no rfl) rfl rfl ?_ | refine R.fldAt Tryd.underlying32 rfl Tryd.sizeOf3 rfl (GOk.no rfl) rfl rfl ?_ | refine R.fldEl Tryd.underlying32 rfl Tryd.sizeOf3 rfl (GOk.no rfl) rfl rfl ?_
  refine R.ldP1 Tryd.isAgg3 (GOk.no rfl) rfl rfl rfl rfl ?_
  refine R.spell 25 rfl (show _ = vI 6 from vI_eq (by first | exact hk | (rw [show (j : Int).toNat = j from rfl]; exact hk))) ?_
  refine R.lookT Tryd.underlying52 Tryd.underlying3 rfl Tryd.zeroValue3 (GOk.no rfl) rfl rfl rfl rfl rfl rfl ?_
  refine R.move (GOk.no rfl) rfl rfl ?_
  refine R.extract (GOk.no rfl) rfl rfl rfl ?_
  refine R.extract (GOk.no rfl) rfl rfl rfl ?_
  refine R.assign (GOk.no rfl) rfl rfl ?_
  refine R.assign (GOk.no rfl) rfl rfl ?_
  refine Run.nil ⟨by kernel_rfl, ?_⟩
  refine J.seq ?_
  refine J.seq ?_
  refine J.region ?_
  refine R.move (GOk.no rfl) rfl rfl ?_
  refine R.not (GOk.no rfl) rfl rfl ?_
  refine Run.nil ⟨by kernel_rfl, ?_⟩
  refine J.condF rfl ?_
  refine J.skip ?_
  refine J.seq ?_
  refine J.seq ?_
  refine J.region ?_
  refine R.move (GOk.no rfl) rfl rfl ?_
  refine R.move (GOk.no rfl) rfl rfl ?_
  refine R.gtr (GOk.no rfl) rfl rfl rfl ?_
  refine Run.nil ⟨by kernel_rfl, ?_⟩
  refine J.cond rfl (fun hc1 => ?_) (fun hc1 => ?_)
  · try simp only [decide_eq_true_eq, decide_eq_false_iff_not, beq_iff_eq, beq_eq_false_iff_ne, bne_iff_ne, bne_eq_false_iff_eq, ne_eq, Bool.not_eq_true', Bool.not_eq_false', Decidable.not_not, Int.toNat_natCast] at hc1
    exfalso; omega
  · try simp only [decide_eq_true_eq, decide_eq_false_iff_not, beq_iff_eq, beq_eq_false_iff_ne, bne_iff_ne, bne_eq_false_iff_eq, ne_eq, Bool.not_eq_true', Bool.not_eq_false', Decidable.not_not, Int.toNat_natCast] at hc1
    refine J.skip ?_
    refine J.seq ?_
    refine J.region ?_
    refine R.mkFunc [] [((.tmp 3), _), ((.tmp 8), _)] rfl rfl (GOk.no rfl) rfl ⟨rfl, rfl, trivial⟩ ?_
    refine R.alloc _ (GOk.no rfl) rfl _ Tryd.zeroValue53 rfl rfl ?_
    first | refine R.stP Tryd.sizeOf53 (GOk.no rfl) rfl rfl rfl rfl rfl (Nat.le_of_ble_eq_true rfl) ?_ | refine R.stPB Tryd.sizeOf53 (GOk.no rfl) rfl rfl rfl rfl rfl ?_ | refine R.stB Tryd.sizeOf53 (GOk.no rfl) rfl rfl rfl rfl (Nat.le_of_ble_eq_true rfl) ?_
    refine Run.nil ⟨by kernel_rfl, ?_⟩
    refine J.seq ?_
    refine J.region ?_
    refine R.mkFunc [] [((.tmp 3), _), ((.tmp 8), _)] rfl rfl (GOk.no rfl) rfl ⟨rfl, rfl, trivial⟩ ?_
    refine R.alloc _ (GOk.no rfl) rfl _ Tryd.zeroValue54 rfl rfl ?_
    first | refine R.stP Tryd.sizeOf54 (GOk.no rfl) rfl rfl rfl rfl rfl (Nat.le_of_ble_eq_true rfl) ?_ | refine R.stPB Tryd.sizeOf54 (GOk.no rfl) rfl rfl rfl rfl rfl ?_ | refine R.stB Tryd.sizeOf54 (GOk.no rfl) rfl rfl rfl rfl (Nat.le_of_ble_eq_true rfl) ?_
    refine Run.nil ⟨by kernel_rfl, ?_⟩
    refine J.seq ?_
    refine J.region ?_
    refine R.mkFunc [] [((.tmp 13), _)] rfl rfl (GOk.no rfl) rfl ⟨rfl, trivial⟩ ?_
    refine R.alloc _ (GOk.no rfl) rfl _ Tryd.zeroValue55 rfl rfl ?_
    first | refine R.stP Tryd.sizeOf55 (GOk.no rfl) rfl rfl rfl rfl rfl (Nat.le_of_ble_eq_true rfl) ?_ | refine R.stPB Tryd.sizeOf55 (GOk.no rfl) rfl rfl rfl rfl rfl ?_ | refine R.stB Tryd.sizeOf55 (GOk.no rfl) rfl rfl rfl rfl (Nat.le_of_ble_eq_true rfl) ?_
    refine Run.nil ⟨by kernel_rfl, ?_⟩
    refine J.seq ?_
    refine J.region ?_
    refine R.mkMap (GOk.no rfl) rfl ?_
    refine R.insert Tryd.underlying57 Tryd.underlying3 rfl (GOk.no rfl) rfl rfl rfl rfl rfl ?_
    refine R.mkFunc [] [((.tmp 8), _)] rfl rfl (GOk.no rfl) rfl ⟨rfl, trivial⟩ ?_
    refine R.insert Tryd.underlying57 Tryd.underlying3 rfl (GOk.no rfl) rfl rfl rfl rfl rfl ?_
    refine R.mkFunc [] [((.tmp 8), _)] rfl rfl (GOk.no rfl) rfl ⟨rfl, trivial⟩ ?_
    refine R.insert Tryd.underlying57 Tryd.underlying3 rfl (GOk.no rfl) rfl rfl rfl rfl rfl ?_
    refine R.mkFunc [] [((.tmp 14), _)] rfl rfl (GOk.no rfl) rfl ⟨rfl, trivial⟩ ?_
    refine R.insert Tryd.underlying57 Tryd.underlying3 rfl (GOk.no rfl) rfl rfl rfl rfl rfl ?_
    refine R.mkFunc [] [((.tmp 14), _)] rfl rfl (GOk.no rfl) rfl ⟨rfl, trivial⟩ ?_
    refine R.insert Tryd.underlying57 Tryd.underlying3 rfl (GOk.no rfl) rfl rfl rfl rfl rfl ?_
    refine R.mkFunc [] [((.tmp 13), _)] rfl rfl (GOk.no rfl) rfl ⟨rfl, trivial⟩ ?_
    refine R.insert Tryd.underlying57 Tryd.underlying3 rfl (GOk.no rfl) rfl rfl rfl rfl rfl ?_
    refine R.mkFunc [] [((.tmp 13), _), ((.tmp 8), _)] rfl rfl (GOk.no rfl) rfl ⟨rfl, rfl, trivial⟩ ?_
    refine R.insert Tryd.underlying57 Tryd.underlying3 rfl (GOk.no rfl) rfl rfl rfl rfl rfl ?_
    refine R.mkFunc [] [((.tmp 15), _)] rfl rfl (GOk.no rfl) rfl ⟨rfl, trivial⟩ ?_
    refine R.insert Tryd.underlying57 Tryd.underlying3 rfl (GOk.no rfl) rfl rfl rfl rfl rfl ?_
    refine R.mkFunc [] [((.tmp 15), _)] rfl rfl (GOk.no rfl) rfl ⟨rfl, trivial⟩ ?_
    refine R.insert Tryd.underlying57 Tryd.underlying3 rfl (GOk.no rfl) rfl rfl rfl rfl rfl ?_
    refine R.move (GOk.no rfl) rfl rfl ?_
    refine R.assign (GOk.no rfl) rfl rfl ?_
    refine Run.nil ⟨by kernel_rfl, ?_⟩
    refine J.seq ?_
    refine J.region ?_
    refine R.move (GOk.no rfl) rfl rfl ?_
    first | refine R.fldPtr Tryd.underlying32 rfl Tryd.sizeOf3 rfl (GOk.no rfl) rfl rfl ?_ | refine R.fldAt Tryd.underlying32 rfl Tryd.sizeOf3 rfl (GOk.no rfl) rfl rfl ?_ | refine R.fldEl Tryd.underlying32 rfl Tryd.sizeOf3 rfl (GOk.no rfl) rfl rfl ?_
    refine R.ldP1 Tryd.isAgg3 (GOk.no rfl) rfl rfl rfl rfl ?_
    refine R.spell 61 rfl (show _ = vI 6 from vI_eq (by first | exact hk | (rw [show (j : Int).toNat = j from rfl]; exact hk))) ?_
    refine R.look1 Tryd.underlying57 Tryd.underlying3 rfl Tryd.zeroValue56 (GOk.no rfl) rfl rfl rfl rfl rfl rfl ?_
    refine R.callV (first := []) (caps := [13]) [] true ((con_30 l l[j]! s x hc (by omega)).ren (rn [(1003, 3), (1008, 8), (1013, 13), (1014, 14), (1015, 15)]) rfl) rfl (GOk.no rfl) (fun d h => by cases h; rfl) rfl trivial ⟨rfl, rfl, rfl, rfl, rfl, trivial⟩ rfl (fun _ => ⟨rfl, rfl, rfl, rfl, rfl, trivial⟩) ?_
    refine R.extract (GOk.no rfl) rfl rfl rfl ?_
    refine R.extract (GOk.no rfl) rfl rfl rfl ?_
    refine R.assign (GOk.no rfl) rfl rfl ?_
    refine R.assign (GOk.no rfl) rfl rfl ?_
    refine Run.nil ⟨by kernel_rfl, ?_⟩
    refine J.ret ?_
    exact FinQ.of ⟨ret_eq rfl (rfl), ret_eq rfl (rfl), trivial⟩ ⟨rfl, rfl, trivial⟩
theorem b14_7 (l : List Nd) (hl : l.length ≤ 1000000) (j : Nat) (hj : j < l.length) (level : Int) (hlev : level ≤ 2) (hk : (l[j]!).kind = 7) (s : ByteArray) (x : Int) (hc : Con Tryd.prog 14 [sD l, sI (l[j]!).a, sI 2] [(2000, some (lvO m)), (2002, some (pow10 q))] [sS s, sI x] [(2000, some (lvO m)), (2002, some (pow10 q))] []) (hs : s.size + 3 ≤ 100000000) (hn : 0 ≤ (l[j]!).lo ∧ (l[j]!).lo ≤ (l[j]!).hi ∧ (l[j]!).hi ≤ 255) :
    Con Tryd.prog 14 [sD l, sI (j : Int), sI level] [(2000, some (lvO m)), (2002, some (pow10 q))] [sS (⟨#[]⟩ ++ s ++ repB (l[j]!).lo (l[j]!).hi), sI (x)] [(2000, some (lvO m)), (2002, some (pow10 q))] [] := by
  refine con_of_J [] Tryd.func14 rfl rfl Tryd.ntmps14 rfl (Nat.le_of_ble_eq_true rfl) rfl rfl ?_
  refine J.seq ?_
  refine J.region ?_
  first | refine R.boxP rfl (GOk.no rfl) rfl rfl ?_ | refine R.boxA (GOk.no rfl) rfl rfl rfl ?_
  refine R.assign (GOk.no rfl) rfl rfl ?_
  refine R.assign (GOk.no rfl) rfl rfl ?_
  refine Run.nil ⟨by kernel_rfl, ?_⟩
  refine J.seq ?_
  refine J.region ?_
  first | refine R.fldPtr Tryd.underlying24 rfl Tryd.sizeOf22 rfl (GOk.no rfl) rfl rfl ?_ | refine R.fldAt Tryd.underlying24 rfl Tryd.sizeOf22 rfl (GOk.no rfl) rfl rfl ?_ | refine R.fldEl Tryd.underlying24 rfl Tryd.sizeOf22 rfl (GOk.no rfl) rfl rfl ?_
  first | refine R.ldP1 Tryd.isAgg22 (GOk.no rfl) rfl rfl rfl rfl ?_ | refine R.ldAt1 Tryd.isAgg22 (GOk.no rfl) rfl rfl rfl ?_ | refine R.ldB1 Tryd.isAgg22 (GOk.no rfl) rfl rfl rfl rfl ?_ | refine R.ldElM1 Tryd.isAgg22 (GOk.no rfl) rfl rfl rfl (by omega) rfl ?_
  refine R.move (GOk.no rfl) rfl rfl ?_
  refine R.idxM Tryd.underlying22 Tryd.sizeOf32 (GOk.no rfl) rfl rfl rfl (by omega) (by omega) ?_
  first | refine R.ldPA Tryd.isAgg32 Tryd.sizeOf32 (GOk.no rfl) rfl rfl rfl (Nat.le_of_ble_eq_true rfl) ?_ | refine R.ldAtA Tryd.isAgg32 Tryd.sizeOf32 (GOk.no rfl) rfl rfl (Nat.le_of_ble_eq_true rfl) ?_ | refine R.ldBA Tryd.isAgg32 Tryd.sizeOf32 (GOk.no rfl) rfl rfl rfl (Nat.le_of_ble_eq_true rfl) ?_ | refine R.ldElMA Tryd.isAgg32 Tryd.sizeOf32 (GOk.no rfl) rfl rfl rfl (by omega) (Nat.le_of_ble_eq_true rfl) ?_
  refine R.alloc _ (GOk.no rfl) rfl _ Tryd.zeroValue32 rfl rfl ?_
  first | refine R.stP Tryd.sizeOf32 (GOk.no rfl) rfl rfl rfl rfl rfl (Nat.le_of_ble_eq_true rfl) ?_ | refine R.stPB Tryd.sizeOf32 (GOk.no rfl) rfl rfl rfl rfl rfl ?_ | refine R.stB Tryd.sizeOf32 (GOk.no rfl) rfl rfl rfl rfl (Nat.le_of_ble_eq_true rfl) ?_
  refine Run.nil ⟨by kernel_rfl, ?_⟩
  refine J.seq ?_
  refine J.region ?_
  refine R.ldGM (κ := 2000) Tryd.isAgg52 (GOk.no rfl) rfl rfl ?_
  first | refine R.fldPtr Tryd.underlying32 rfl Tryd.sizeOf3 rfl (GOk.no rfl) rfl rfl ?_ | refine R.fldAt Tryd.underlying32 rfl Tryd.sizeOf3 rfl (GOk.no rfl) rfl rfl ?_ | refine R.fldEl Tryd.underlying32 rfl Tryd.sizeOf3 rfl (GOk.no rfl) rfl rfl ?_
  refine R.ldP1 Tryd.isAgg3 (GOk.no rfl) rfl rfl rfl rfl ?_
  refine R.spell 25 rfl (show _ = vI 7 from vI_eq (by first | exact hk | (rw [show (j : Int).toNat = j from rfl]; exact hk))) ?_
  refine R.lookT Tryd.underlying52 Tryd.underlying3 rfl Tryd.zeroValue3 (GOk.no rfl) rfl rfl rfl rfl rfl rfl ?_
  refine R.move (GOk.no rfl) rfl rfl ?_
  refine R.extract (GOk.no rfl) rfl rfl rfl ?_
  refine R.extract (GOk.no rfl) rfl rfl rfl ?_
  refine R.assign (GOk.no rfl) rfl rfl ?_
  refine R.assign (GOk.no rfl) rfl rfl ?_
  refine Run.nil ⟨by kernel_rfl, ?_⟩
  refine J.seq ?_
  refine J.seq ?_
  refine J.region ?_
  refine R.move (GOk.no rfl) rfl rfl ?_
  refine R.not (GOk.no rfl) rfl rfl ?_
  refine Run.nil ⟨by kernel_rfl, ?_⟩
  refine J.condF rfl ?_
  refine J.skip ?_
  refine J.seq ?_
  refine J.seq ?_
  refine J.region ?_
  refine R.move (GOk.no rfl) rfl rfl ?_
  refine R.move (GOk.no rfl) rfl rfl ?_
  refine R.gtr (GOk.no rfl) rfl rfl rfl ?_
  refine Run.nil ⟨by kernel_rfl, ?_⟩
  refine J.cond rfl (fun hc1 => ?_) (fun hc1 => ?_)
  · try simp only [decide_eq_true_eq, decide_eq_false_iff_not, beq_iff_eq, beq_eq_false_iff_ne, bne_iff_ne, bne_eq_false_iff_eq, ne_eq, Bool.not_eq_true', Bool.not_eq_false', Decidable.not_not, Int.toNat_natCast] at hc1
    exfalso; omega
  · try simp only [decide_eq_true_eq, decide_eq_false_iff_not, beq_iff_eq, beq_eq_false_iff_ne, bne_iff_ne, bne_eq_false_iff_eq, ne_eq, Bool.not_eq_true', Bool.not_eq_false', Decidable.not_not, Int.toNat_natCast] at hc1
    refine J.skip ?_
    refine J.seq ?_
    refine J.region ?_
    refine R.mkFunc [] [((.tmp 3), _), ((.tmp 8), _)] rfl rfl (GOk.no rfl) rfl ⟨rfl, rfl, trivial⟩ ?_
    refine R.alloc _ (GOk.no rfl) rfl _ Tryd.zeroValue53 rfl rfl ?_
    first | refine R.stP Tryd.sizeOf53 (GOk.no rfl) rfl rfl rfl rfl rfl (Nat.le_of_ble_eq_true rfl) ?_ | refine R.stPB Tryd.sizeOf53 (GOk.no rfl) rfl rfl rfl rfl rfl ?_ | refine R.stB Tryd.sizeOf53 (GOk.no rfl) rfl rfl rfl rfl (Nat.le_of_ble_eq_true rfl) ?_
    refine Run.nil ⟨by kernel_rfl, ?_⟩
    refine J.seq ?_
    refine J.region ?_
    refine R.mkFunc [] [((.tmp 3), _), ((.tmp 8), _)] rfl rfl (GOk.no rfl) rfl ⟨rfl, rfl, trivial⟩ ?_
    refine R.alloc _ (GOk.no rfl) rfl _ Tryd.zeroValue54 rfl rfl ?_
    first | refine R.stP Tryd.sizeOf54 (GOk.no rfl) rfl rfl rfl rfl rfl (Nat.le_of_ble_eq_true rfl) ?_ | refine R.stPB Tryd.sizeOf54 (GOk.no rfl) rfl rfl rfl rfl rfl ?_ | refine R.stB Tryd.sizeOf54 (GOk.no rfl) rfl rfl rfl rfl (Nat.le_of_ble_eq_true rfl) ?_
    refine Run.nil ⟨by kernel_rfl, ?_⟩
    refine J.seq ?_
    refine J.region ?_
    refine R.mkFunc [] [((.tmp 13), _)] rfl rfl (GOk.no rfl) rfl ⟨rfl, trivial⟩ ?_
    refine R.alloc _ (GOk.no rfl) rfl _ Tryd.zeroValue55 rfl rfl ?_
    first | refine R.stP Tryd.sizeOf55 (GOk.no rfl) rfl rfl rfl rfl rfl (Nat.le_of_ble_eq_true rfl) ?_ | refine R.stPB Tryd.sizeOf55 (GOk.no rfl) rfl rfl rfl rfl rfl ?_ | refine R.stB Tryd.sizeOf55 (GOk.no rfl) rfl rfl rfl rfl (Nat.le_of_ble_eq_true rfl) ?_
    refine Run.nil ⟨by kernel_rfl, ?_⟩
    refine J.seq ?_
    refine J.region ?_
    refine R.mkMap (GOk.no rfl) rfl ?_
    refine R.insert Tryd.underlying57 Tryd.underlying3 rfl (GOk.no rfl) rfl rfl rfl rfl rfl ?_
    refine R.mkFunc [] [((.tmp 8), _)] rfl rfl (GOk.no rfl) rfl ⟨rfl, trivial⟩ ?_
    refine R.insert Tryd.underlying57 Tryd.underlying3 rfl (GOk.no rfl) rfl rfl rfl rfl rfl ?_
    refine R.mkFunc [] [((.tmp 8), _)] rfl rfl (GOk.no rfl) rfl ⟨rfl, trivial⟩ ?_
    refine R.insert Tryd.underlying57 Tryd.underlying3 rfl (GOk.no rfl) rfl rfl rfl rfl rfl ?_
    refine R.mkFunc [] [((.tmp 14), _)] rfl rfl (GOk.no rfl) rfl ⟨rfl, trivial⟩ ?_
    refine R.insert Tryd.underlying57 Tryd.underlying3 rfl (GOk.no rfl) rfl rfl rfl rfl rfl ?_
    refine R.mkFunc [] [((.tmp 14), _)] rfl rfl (GOk.no rfl) rfl ⟨rfl, trivial⟩ ?_
    refine R.insert Tryd.underlying57 Tryd.underlying3 rfl (GOk.no rfl) rfl rfl rfl rfl rfl ?_
    refine R.mkFunc [] [((.tmp 13), _)] rfl rfl (GOk.no rfl) rfl ⟨rfl, trivial⟩ ?_
    refine R.insert Tryd.underlying57 Tryd.underlying3 rfl (GOk.no rfl) rfl rfl rfl rfl rfl ?_
    refine R.mkFunc [] [((.tmp 13), _), ((.tmp 8), _)] rfl rfl (GOk.no rfl) rfl ⟨rfl, rfl, trivial⟩ ?_
    refine R.insert Tryd.underlying57 Tryd.underlying3 rfl (GOk.no rfl) rfl rfl rfl rfl rfl ?_
    refine R.mkFunc [] [((.tmp 15), _)] rfl rfl (GOk.no rfl) rfl ⟨rfl, trivial⟩ ?_
    refine R.insert Tryd.underlying57 Tryd.underlying3 rfl (GOk.no rfl) rfl rfl rfl rfl rfl ?_
    refine R.mkFunc [] [((.tmp 15), _)] rfl rfl (GOk.no rfl) rfl ⟨rfl, trivial⟩ ?_
    refine R.insert Tryd.underlying57 Tryd.underlying3 rfl (GOk.no rfl) rfl rfl rfl rfl rfl ?_
    refine R.move (GOk.no rfl) rfl rfl ?_
    refine R.assign (GOk.no rfl) rfl rfl ?_
    refine Run.nil ⟨by kernel_rfl, ?_⟩
    refine J.seq ?_
    refine J.region ?_
    refine R.move (GOk.no rfl) rfl rfl ?_
    first | refine R.fldPtr Tryd.underlying32 rfl Tryd.sizeOf3 rfl (GOk.no rfl) rfl rfl ?_ | refine R.fldAt Tryd.underlying32 rfl Tryd.sizeOf3 rfl (GOk.no rfl) rfl rfl ?_ | refine R.fldEl Tryd.underlying32 rfl Tryd.sizeOf3 rfl (GOk.no rfl) rfl rfl ?_
    refine R.ldP1 Tryd.isAgg3 (GOk.no rfl) rfl rfl rfl rfl ?_
    refine R.spell 61 rfl (show _ = vI 7 from vI_eq (by first | exact hk | (rw [show (j : Int).toNat = j from rfl]; exact hk))) ?_
    refine R.look1 Tryd.underlying57 Tryd.underlying3 rfl Tryd.zeroValue56 (GOk.no rfl) rfl rfl rfl rfl rfl rfl ?_
    refine R.callV (first := []) (caps := [13, 8]) [] true ((con_31 l l[j]! s x hc hn (by omega)).ren (rn [(1003, 3), (1008, 8), (1013, 13), (1014, 14), (1015, 15)]) rfl) rfl (GOk.no rfl) (fun d h => by cases h; rfl) rfl trivial ⟨rfl, rfl, rfl, rfl, rfl, trivial⟩ rfl (fun _ => ⟨rfl, rfl, rfl, rfl, rfl, trivial⟩) ?_
    refine R.extract (GOk.no rfl) rfl rfl rfl ?_
    refine R.extract (GOk.no rfl) rfl rfl rfl ?_
    refine R.assign (GOk.no rfl) rfl rfl ?_
    refine R.assign (GOk.no rfl) rfl rfl ?_
    refine Run.nil ⟨by kernel_rfl, ?_⟩
    refine J.ret ?_
    exact FinQ.of ⟨ret_eq rfl (rfl), ret_eq rfl (rfl), trivial⟩ ⟨rfl, rfl, trivial⟩
theorem b14_8 (l : List Nd) (hl : l.length ≤ 1000000) (j : Nat) (hj : j < l.length) (level : Int) (hlev : level ≤ 3) (hk : (l[j]!).kind = 8) (s : ByteArray) (x : Int) (hc : Con Tryd.prog 14 [sD l, sI (l[j]!).a, sI 0] [(2000, some (lvO m)), (2002, some (pow10 q))] [sS s, sI x] [(2000, some (lvO m)), (2002, some (pow10 q))] []) (hs : s.size + 3 ≤ 100000000) (hx : 0 ≤ x ∧ x ≤ 1000000000) :
    Con Tryd.prog 14 [sD l, sI (j : Int), sI level] [(2000, some (lvO m)), (2002, some (pow10 q))] [sS (⟨#[98, 40]⟩ ++ s ++ ⟨#[41]⟩), sI (x + 1)] [(2000, some (lvO m)), (2002, some (pow10 q))] [] := by
  refine con_of_J [] Tryd.func14 rfl rfl Tryd.ntmps14 rfl (Nat.le_of_ble_eq_true rfl) rfl rfl ?_
  refine J.seq ?_
  refine J.region ?_
  first | refine R.boxP rfl (GOk.no rfl) rfl rfl ?_ | refine R.boxA (GOk.no rfl) rfl rfl rfl ?_
  refine R.assign (GOk.no rfl) rfl rfl ?_
  refine R.assign (GOk.no rfl) rfl rfl ?_
  refine Run.nil ⟨by kernel_rfl, ?_⟩
  refine J.seq ?_
  refine J.region ?_
  first | refine R.fldPtr Tryd.underlying24 rfl Tryd.sizeOf22 rfl (GOk.no rfl) rfl rfl ?_ | refine R.fldAt Tryd.underlying24 rfl Tryd.sizeOf22 rfl (GOk.no rfl) rfl rfl ?_ | refine R.fldEl Tryd.underlying24 rfl Tryd.sizeOf22 rfl (GOk.no rfl) rfl rfl ?_
  first | refine R.ldP1 Tryd.isAgg22 (GOk.no rfl) rfl rfl rfl rfl ?_ | refine R.ldAt1 Tryd.isAgg22 (GOk.no rfl) rfl rfl rfl ?_ | refine R.ldB1 Tryd.isAgg22 (GOk.no rfl) rfl rfl rfl rfl ?_ | refine R.ldElM1 Tryd.isAgg22 (GOk.no rfl) rfl rfl rfl (by omega) rfl ?_
  refine R.move (GOk.no rfl) rfl rfl ?_
  refine R.idxM Tryd.underlying22 Tryd.sizeOf32 (GOk.no rfl) rfl rfl rfl (by omega) (by omega) ?_
  first | refine R.ldPA Tryd.isAgg32 Tryd.sizeOf32 (GOk.no rfl) rfl rfl rfl (Nat.le_of_ble_eq_true rfl) ?_ | refine R.ldAtA Tryd.isAgg32 Tryd.sizeOf32 (GOk.no rfl) rfl rfl (Nat.le_of_ble_eq_true rfl) ?_ | refine R.ldBA Tryd.isAgg32 Tryd.sizeOf32 (GOk.no rfl) rfl rfl rfl (Nat.le_of_ble_eq_true rfl) ?_ | refine R.ldElMA Tryd.isAgg32 Tryd.sizeOf32 (GOk.no rfl) rfl rfl rfl (by omega) (Nat.le_of_ble_eq_true rfl) ?_
  refine R.alloc _ (GOk.no rfl) rfl _ Tryd.zeroValue32 rfl rfl ?_
  first | refine R.stP Tryd.sizeOf32 (GOk.no rfl) rfl rfl rfl rfl rfl (Nat.le_of_ble_eq_true rfl) ?_ | refine R.stPB Tryd.sizeOf32 (GOk.no rfl) rfl rfl rfl rfl rfl ?_ | refine R.stB Tryd.sizeOf32 (GOk.no rfl) rfl rfl rfl rfl (Nat.le_of_ble_eq_true rfl) ?_
  refine Run.nil ⟨by kernel_rfl, ?_⟩
  refine J.seq ?_
  refine J.region ?_
  refine R.ldGM (κ := 2000) Tryd.isAgg52 (GOk.no rfl) rfl rfl ?_
  first | refine R.fldPtr Tryd.underlying32 rfl Tryd.sizeOf3 rfl (GOk.no rfl) rfl rfl ?_ | refine R.fldAt Tryd.underlying32 rfl Tryd.sizeOf3 rfl (GOk.no rfl) rfl rfl ?_ | refine R.fldEl Tryd.underlying32 rfl Tryd.sizeOf3 rfl (GOk.no rfl) rfl rfl ?_
  refine R.ldP1 Tryd.isAgg3 (GOk.no rfl) rfl rfl rfl rfl ?_
  refine R.spell 25 rfl (show _ = vI 8 from vI_eq (by first | exact hk | (rw [show (j : Int).toNat = j from rfl]; exact hk))) ?_
  refine R.lookF (z := sI 0) Tryd.underlying52 Tryd.underlying3 rfl Tryd.zeroValue3 (fun _ _ => .v _ rfl) (GOk.no rfl) rfl rfl rfl rfl rfl rfl ?_
  refine R.move (GOk.no rfl) rfl rfl ?_
  refine R.extract (GOk.no rfl) rfl rfl rfl ?_
  refine R.extract (GOk.no rfl) rfl rfl rfl ?_
  refine R.assign (GOk.no rfl) rfl rfl ?_
  refine R.assign (GOk.no rfl) rfl rfl ?_
  refine Run.nil ⟨by kernel_rfl, ?_⟩
  refine J.seq ?_
  refine J.seq ?_
  refine J.region ?_
  refine R.move (GOk.no rfl) rfl rfl ?_
  refine R.not (GOk.no rfl) rfl rfl ?_
  refine Run.nil ⟨by kernel_rfl, ?_⟩
  refine J.condT rfl ?_
  refine J.region ?_
  refine R.assign (GOk.no rfl) rfl rfl ?_
  refine Run.nil ⟨by kernel_rfl, ?_⟩
  refine J.seq ?_
  refine J.seq ?_
  refine J.region ?_
  refine R.move (GOk.no rfl) rfl rfl ?_
  refine R.move (GOk.no rfl) rfl rfl ?_
  refine R.gtr (GOk.no rfl) rfl rfl rfl ?_
  refine Run.nil ⟨by kernel_rfl, ?_⟩
  refine J.cond rfl (fun hc1 => ?_) (fun hc1 => ?_)
  · try simp only [decide_eq_true_eq, decide_eq_false_iff_not, beq_iff_eq, beq_eq_false_iff_ne, bne_iff_ne, bne_eq_false_iff_eq, ne_eq, Bool.not_eq_true', Bool.not_eq_false', Decidable.not_not, Int.toNat_natCast] at hc1
    exfalso; omega
  · try simp only [decide_eq_true_eq, decide_eq_false_iff_not, beq_iff_eq, beq_eq_false_iff_ne, bne_iff_ne, bne_eq_false_iff_eq, ne_eq, Bool.not_eq_true', Bool.not_eq_false', Decidable.not_not, Int.toNat_natCast] at hc1
    refine J.skip ?_
    refine J.seq ?_
    refine J.region ?_
    refine R.mkFunc [] [((.tmp 3), _), ((.tmp 8), _)] rfl rfl (GOk.no rfl) rfl ⟨rfl, rfl, trivial⟩ ?_
    refine R.alloc _ (GOk.no rfl) rfl _ Tryd.zeroValue53 rfl rfl ?_
    first | refine R.stP Tryd.sizeOf53 (GOk.no rfl) rfl rfl rfl rfl rfl (Nat.le_of_ble_eq_true rfl) ?_ | refine R.stPB Tryd.sizeOf53 (GOk.no rfl) rfl rfl rfl rfl rfl ?_ | refine R.stB Tryd.sizeOf53 (GOk.no rfl) rfl rfl rfl rfl (Nat.le_of_ble_eq_true rfl) ?_
    refine Run.nil ⟨by kernel_rfl, ?_⟩
    refine J.seq ?_
    refine J.region ?_
    refine R.mkFunc [] [((.tmp 3), _), ((.tmp 8), _)] rfl rfl (GOk.no rfl) rfl ⟨rfl, rfl, trivial⟩ ?_
    refine R.alloc _ (GOk.no rfl) rfl _ Tryd.zeroValue54 rfl rfl ?_
    first | refine R.stP Tryd.sizeOf54 (GOk.no rfl) rfl rfl rfl rfl rfl (Nat.le_of_ble_eq_true rfl) ?_ | refine R.stPB Tryd.sizeOf54 (GOk.no rfl) rfl rfl rfl rfl rfl ?_ | refine R.stB Tryd.sizeOf54 (GOk.no rfl) rfl rfl rfl rfl (Nat.le_of_ble_eq_true rfl) ?_
    refine Run.nil ⟨by kernel_rfl, ?_⟩
    refine J.seq ?_
    refine J.region ?_
    refine R.mkFunc [] [((.tmp 13), _)] rfl rfl (GOk.no rfl) rfl ⟨rfl, trivial⟩ ?_
    refine R.alloc _ (GOk.no rfl) rfl _ Tryd.zeroValue55 rfl rfl ?_
    first | refine R.stP Tryd.sizeOf55 (GOk.no rfl) rfl rfl rfl rfl rfl (Nat.le_of_ble_eq_true rfl) ?_ | refine R.stPB Tryd.sizeOf55 (GOk.no rfl) rfl rfl rfl rfl rfl ?_ | refine R.stB Tryd.sizeOf55 (GOk.no rfl) rfl rfl rfl rfl (Nat.le_of_ble_eq_true rfl) ?_
    refine Run.nil ⟨by kernel_rfl, ?_⟩
    refine J.seq ?_
    refine J.region ?_
    refine R.mkMap (GOk.no rfl) rfl ?_
    refine R.insert Tryd.underlying57 Tryd.underlying3 rfl (GOk.no rfl) rfl rfl rfl rfl rfl ?_
    refine R.mkFunc [] [((.tmp 8), _)] rfl rfl (GOk.no rfl) rfl ⟨rfl, trivial⟩ ?_
    refine R.insert Tryd.underlying57 Tryd.underlying3 rfl (GOk.no rfl) rfl rfl rfl rfl rfl ?_
    refine R.mkFunc [] [((.tmp 8), _)] rfl rfl (GOk.no rfl) rfl ⟨rfl, trivial⟩ ?_
    refine R.insert Tryd.underlying57 Tryd.underlying3 rfl (GOk.no rfl) rfl rfl rfl rfl rfl ?_
    refine R.mkFunc [] [((.tmp 14), _)] rfl rfl (GOk.no rfl) rfl ⟨rfl, trivial⟩ ?_
    refine R.insert Tryd.underlying57 Tryd.underlying3 rfl (GOk.no rfl) rfl rfl rfl rfl rfl ?_
    refine R.mkFunc [] [((.tmp 14), _)] rfl rfl (GOk.no rfl) rfl ⟨rfl, trivial⟩ ?_
    refine R.insert Tryd.underlying57 Tryd.underlying3 rfl (GOk.no rfl) rfl rfl rfl rfl rfl ?_
    refine R.mkFunc [] [((.tmp 13), _)] rfl rfl (GOk.no rfl) rfl ⟨rfl, trivial⟩ ?_
    refine R.insert Tryd.underlying57 Tryd.underlying3 rfl (GOk.no rfl) rfl rfl rfl rfl rfl ?_
    refine R.mkFunc [] [((.tmp 13), _), ((.tmp 8), _)] rfl rfl (GOk.no rfl) rfl ⟨rfl, rfl, trivial⟩ ?_
    refine R.insert Tryd.underlying57 Tryd.underlying3 rfl (GOk.no rfl) rfl rfl rfl rfl rfl ?_
    refine R.mkFunc [] [((.tmp 15), _)] rfl rfl (GOk.no rfl) rfl ⟨rfl, trivial⟩ ?_
    refine R.insert Tryd.underlying57 Tryd.underlying3 rfl (GOk.no rfl) rfl rfl rfl rfl rfl ?_
    refine R.mkFunc [] [((.tmp 15), _)] rfl rfl (GOk.no rfl) rfl ⟨rfl, trivial⟩ ?_
    refine R.insert Tryd.underlying57 Tryd.underlying3 rfl (GOk.no rfl) rfl rfl rfl rfl rfl ?_
    refine R.move (GOk.no rfl) rfl rfl ?_
    refine R.assign (GOk.no rfl) rfl rfl ?_
    refine Run.nil ⟨by kernel_rfl, ?_⟩
    refine J.seq ?_
    refine J.region ?_
    refine R.move (GOk.no rfl) rfl rfl ?_
    first | refine R.fldPtr Tryd.underlying32 rfl Tryd.sizeOf3 rfl (GOk.no rfl) rfl rfl ?_ | refine R.fldAt Tryd.underlying32 rfl Tryd.sizeOf3 rfl (GOk.no rfl) rfl rfl ?_ | refine R.fldEl Tryd.underlying32 rfl Tryd.sizeOf3 rfl (GOk.no rfl) rfl rfl ?_
    refine R.ldP1 Tryd.isAgg3 (GOk.no rfl) rfl rfl rfl rfl ?_
    refine R.spell 61 rfl (show _ = vI 8 from vI_eq (by first | exact hk | (rw [show (j : Int).toNat = j from rfl]; exact hk))) ?_
    refine R.look1 Tryd.underlying57 Tryd.underlying3 rfl Tryd.zeroValue56 (GOk.no rfl) rfl rfl rfl rfl rfl rfl ?_
    refine R.callV (first := []) (caps := [15]) [] true ((con_33 l l[j]! s x hc hx (by omega)).ren (rn [(1003, 3), (1008, 8), (1013, 13), (1014, 14), (1015, 15)]) rfl) rfl (GOk.no rfl) (fun d h => by cases h; rfl) rfl trivial ⟨rfl, rfl, rfl, rfl, rfl, rfl, trivial⟩ rfl (fun _ => ⟨rfl, rfl, rfl, rfl, rfl, rfl, trivial⟩) ?_
    refine R.extract (GOk.no rfl) rfl rfl rfl ?_
    refine R.extract (GOk.no rfl) rfl rfl rfl ?_
    refine R.assign (GOk.no rfl) rfl rfl ?_
    refine R.assign (GOk.no rfl) rfl rfl ?_
    refine Run.nil ⟨by kernel_rfl, ?_⟩
    refine J.ret ?_
    exact FinQ.of ⟨ret_eq rfl (rfl), ret_eq rfl (rfl), trivial⟩ ⟨rfl, rfl, trivial⟩
theorem b14_9 (l : List Nd) (hl : l.length ≤ 1000000) (j : Nat) (hj : j < l.length) (level : Int) (hlev : level ≤ 3) (hk : (l[j]!).kind = 9) (s : ByteArray) (x : Int) (hc : Con Tryd.prog 14 [sD l, sI (l[j]!).a, sI 0] [(2000, some (lvO m)), (2002, some (pow10 q))] [sS s, sI x] [(2000, some (lvO m)), (2002, some (pow10 q))] []) (hs : s.size + 3 ≤ 100000000) (hx : 0 ≤ x ∧ x ≤ 1000000000) :
    Con Tryd.prog 14 [sD l, sI (j : Int), sI level] [(2000, some (lvO m)), (2002, some (pow10 q))] [sS (⟨#[119, 40]⟩ ++ s ++ ⟨#[41]⟩), sI (x + 1)] [(2000, some (lvO m)), (2002, some (pow10 q))] [] := by
  refine con_of_J [] Tryd.func14 rfl rfl Tryd.ntmps14 rfl (Nat.le_of_ble_eq_true rfl) rfl rfl ?_
  refine J.seq ?_
  refine J.region ?_
  first | refine R.boxP rfl (GOk.no rfl) rfl rfl ?_ | refine R.boxA (GOk.no rfl) rfl rfl rfl ?_
  refine R.assign (GOk.no rfl) rfl rfl ?_
  refine R.assign (GOk.no rfl) rfl rfl ?_
  refine Run.nil ⟨by kernel_rfl, ?_⟩
  refine J.seq ?_
  refine J.region ?_
  first | refine R.fldPtr Tryd.underlying24 rfl Tryd.sizeOf22 rfl (GOk.no rfl) rfl rfl ?_ | refine R.fldAt Tryd.underlying24 rfl Tryd.sizeOf22 rfl (GOk.no rfl) rfl rfl ?_ | refine R.fldEl Tryd.underlying24 rfl Tryd.sizeOf22 rfl (GOk.no rfl) rfl rfl ?_
  first | refine R.ldP1 Tryd.isAgg22 (GOk.no rfl) rfl rfl rfl rfl ?_ | refine R.ldAt1 Tryd.isAgg22 (GOk.no rfl) rfl rfl rfl ?_ | refine R.ldB1 Tryd.isAgg22 (GOk.no rfl) rfl rfl rfl rfl ?_ | refine R.ldElM1 Tryd.isAgg22 (GOk.no rfl) rfl rfl rfl (by omega) rfl ?_
  refine R.move (GOk.no rfl) rfl rfl ?_
  refine R.idxM Tryd.underlying22 Tryd.sizeOf32 (GOk.no rfl) rfl rfl rfl (by omega) (by omega) ?_
  first | refine R.ldPA Tryd.isAgg32 Tryd.sizeOf32 (GOk.no rfl) rfl rfl rfl (Nat.le_of_ble_eq_true rfl) ?_ | refine R.ldAtA Tryd.isAgg32 Tryd.sizeOf32 (GOk.no rfl) rfl rfl (Nat.le_of_ble_eq_true rfl) ?_ | refine R.ldBA Tryd.isAgg32 Tryd.sizeOf32 (GOk.no rfl) rfl rfl rfl (Nat.le_of_ble_eq_true rfl) ?_ | refine R.ldElMA Tryd.isAgg32 Tryd.sizeOf32 (GOk.no rfl) rfl rfl rfl (by omega) (Nat.le_of_ble_eq_true rfl) ?_
  refine R.alloc _ (GOk.no rfl) rfl _ Tryd.zeroValue32 rfl rfl ?_
  first | refine R.stP Tryd.sizeOf32 (GOk.no rfl) rfl rfl rfl rfl rfl (Nat.le_of_ble_eq_true rfl) ?_ | refine R.stPB Tryd.sizeOf32 (GOk.no rfl) rfl rfl rfl rfl rfl ?_ | refine R.stB Tryd.sizeOf32 (GOk.no rfl) rfl rfl rfl rfl (Nat.le_of_ble_eq_true rfl) ?_
  refine Run.nil ⟨by kernel_rfl, ?_⟩
  refine J.seq ?_
  refine J.region ?_
  refine R.ldGM (κ := 2000) Tryd.isAgg52 (GOk.no rfl) rfl rfl ?_
  first | refine R.fldPtr Tryd.underlying32 rfl Tryd.sizeOf3 rfl (GOk.no rfl) rfl rfl ?_ | refine R.fldAt Tryd.underlying32 rfl Tryd.sizeOf3 rfl (GOk.no rfl) rfl rfl ?_ | refine R.fldEl Tryd.underlying32 rfl Tryd.sizeOf3 rfl (GOk.no rfl) rfl rfl ?_
  refine R.ldP1 Tryd.isAgg3 (GOk.no rfl) rfl rfl rfl rfl ?_
  refine R.spell 25 rfl (show _ = vI 9 from vI_eq (by first | exact hk | (rw [show (j : Int).toNat = j from rfl]; exact hk))) ?_
  refine R.lookF (z := sI 0) Tryd.underlying52 Tryd.underlying3 rfl Tryd.zeroValue3 (fun _ _ => .v _ rfl) (GOk.no rfl) rfl rfl rfl rfl rfl rfl ?_
  refine R.move (GOk.no rfl) rfl rfl ?_
  refine R.extract (GOk.no rfl) rfl rfl rfl ?_
  refine R.extract (GOk.no rfl) rfl rfl rfl ?_
  refine R.assign (GOk.no rfl) rfl rfl ?_
  refine R.assign (GOk.no rfl) rfl rfl ?_
  refine Run.nil ⟨by kernel_rfl, ?_⟩
  refine J.seq ?_
  refine J.seq ?_
  refine J.region ?_
  refine R.move (GOk.no rfl) rfl rfl ?_
  refine R.not (GOk.no rfl) rfl rfl ?_
  refine Run.nil ⟨by kernel_rfl, ?_⟩
  refine J.condT rfl ?_
  refine J.region ?_
  refine R.assign (GOk.no rfl) rfl rfl ?_
  refine Run.nil ⟨by kernel_rfl, ?_⟩
  refine J.seq ?_
  refine J.seq ?_
  refine J.region ?_
  refine R.move (GOk.no rfl) rfl rfl ?_
  refine R.move (GOk.no rfl) rfl rfl ?_
  refine R.gtr (GOk.no rfl) rfl rfl rfl ?_
  refine Run.nil ⟨by kernel_rfl, ?_⟩
  refine J.cond rfl (fun hc1 => ?_) (fun hc1 => ?_)
  · try simp only [decide_eq_true_eq, decide_eq_false_iff_not, beq_iff_eq, beq_eq_false_iff_ne, bne_iff_ne, bne_eq_false_iff_eq, ne_eq, Bool.not_eq_true', Bool.not_eq_false', Decidable.not_not, Int.toNat_natCast] at hc1
    exfalso; omega
  · try simp only [decide_eq_true_eq, decide_eq_false_iff_not, beq_iff_eq, beq_eq_false_iff_ne, bne_iff_ne, bne_eq_false_iff_eq, ne_eq, Bool.not_eq_true', Bool.not_eq_false', Decidable.not_not, Int.toNat_natCast] at hc1
    refine J.skip ?_
    refine J.seq ?_
    refine J.region ?_
    refine R.mkFunc [] [((.tmp 3), _), ((.tmp 8), _)] rfl rfl (GOk.no rfl) rfl ⟨rfl, rfl, trivial⟩ ?_
    refine R.alloc _ (GOk.no rfl) rfl _ Tryd.zeroValue53 rfl rfl ?_
    first | refine R.stP Tryd.sizeOf53 (GOk.no rfl) rfl rfl rfl rfl rfl (Nat.le_of_ble_eq_true rfl) ?_ | refine R.stPB Tryd.sizeOf53 (GOk.no rfl) rfl rfl rfl rfl rfl ?_ | refine R.stB Tryd.sizeOf53 (GOk.no rfl) rfl rfl rfl rfl (Nat.le_of_ble_eq_true rfl) ?_
    refine Run.nil ⟨by kernel_rfl, ?_⟩
    refine J.seq ?_
    refine J.region ?_
    refine R.mkFunc [] [((.tmp 3), _), ((.tmp 8), _)] rfl rfl (GOk.no rfl) rfl ⟨rfl, rfl, trivial⟩ ?_
    refine R.alloc _ (GOk.no rfl) rfl _ Tryd.zeroValue54 rfl rfl ?_
    first | refine R.stP Tryd.sizeOf54 (GOk.no rfl) rfl rfl rfl rfl rfl (Nat.le_of_ble_eq_true rfl) ?_ | refine R.stPB Tryd.sizeOf54 (GOk.no rfl) rfl rfl rfl rfl rfl ?_ | refine R.stB Tryd.sizeOf54 (GOk.no rfl) rfl rfl rfl rfl (Nat.le_of_ble_eq_true rfl) ?_
    refine Run.nil ⟨by kernel_rfl, ?_⟩
    refine J.seq ?_
    refine J.region ?_
    refine R.mkFunc [] [((.tmp 13), _)] rfl rfl (GOk.no rfl) rfl ⟨rfl, trivial⟩ ?_
    refine R.alloc _ (GOk.no rfl) rfl _ Tryd.zeroValue55 rfl rfl ?_
    first | refine R.stP Tryd.sizeOf55 (GOk.no rfl) rfl rfl rfl rfl rfl (Nat.le_of_ble_eq_true rfl) ?_ | refine R.stPB Tryd.sizeOf55 (GOk.no rfl) rfl rfl rfl rfl rfl ?_ | refine R.stB Tryd.sizeOf55 (GOk.no rfl) rfl rfl rfl rfl (Nat.le_of_ble_eq_true rfl) ?_
    refine Run.nil ⟨by kernel_rfl, ?_⟩
    refine J.seq ?_
    refine J.region ?_
    refine R.mkMap (GOk.no rfl) rfl ?_
    refine R.insert Tryd.underlying57 Tryd.underlying3 rfl (GOk.no rfl) rfl rfl rfl rfl rfl ?_
    refine R.mkFunc [] [((.tmp 8), _)] rfl rfl (GOk.no rfl) rfl ⟨rfl, trivial⟩ ?_
    refine R.insert Tryd.underlying57 Tryd.underlying3 rfl (GOk.no rfl) rfl rfl rfl rfl rfl ?_
    refine R.mkFunc [] [((.tmp 8), _)] rfl rfl (GOk.no rfl) rfl ⟨rfl, trivial⟩ ?_
    refine R.insert Tryd.underlying57 Tryd.underlying3 rfl (GOk.no rfl) rfl rfl rfl rfl rfl ?_
    refine R.mkFunc [] [((.tmp 14), _)] rfl rfl (GOk.no rfl) rfl ⟨rfl, trivial⟩ ?_
    refine R.insert Tryd.underlying57 Tryd.underlying3 rfl (GOk.no rfl) rfl rfl rfl rfl rfl ?_
    refine R.mkFunc [] [((.tmp 14), _)] rfl rfl (GOk.no rfl) rfl ⟨rfl, trivial⟩ ?_
    refine R.insert Tryd.underlying57 Tryd.underlying3 rfl (GOk.no rfl) rfl rfl rfl rfl rfl ?_
    refine R.mkFunc [] [((.tmp 13), _)] rfl rfl (GOk.no rfl) rfl ⟨rfl, trivial⟩ ?_
    refine R.insert Tryd.underlying57 Tryd.underlying3 rfl (GOk.no rfl) rfl rfl rfl rfl rfl ?_
    refine R.mkFunc [] [((.tmp 13), _), ((.tmp 8), _)] rfl rfl (GOk.no rfl) rfl ⟨rfl, rfl, trivial⟩ ?_
    refine R.insert Tryd.underlying57 Tryd.underlying3 rfl (GOk.no rfl) rfl rfl rfl rfl rfl ?_
    refine R.mkFunc [] [((.tmp 15), _)] rfl rfl (GOk.no rfl) rfl ⟨rfl, trivial⟩ ?_
    refine R.insert Tryd.underlying57 Tryd.underlying3 rfl (GOk.no rfl) rfl rfl rfl rfl rfl ?_
    refine R.mkFunc [] [((.tmp 15), _)] rfl rfl (GOk.no rfl) rfl ⟨rfl, trivial⟩ ?_
    refine R.insert Tryd.underlying57 Tryd.underlying3 rfl (GOk.no rfl) rfl rfl rfl rfl rfl ?_
    refine R.move (GOk.no rfl) rfl rfl ?_
    refine R.assign (GOk.no rfl) rfl rfl ?_
    refine Run.nil ⟨by kernel_rfl, ?_⟩
    refine J.seq ?_
    refine J.region ?_
    refine R.move (GOk.no rfl) rfl rfl ?_
    first | refine R.fldPtr Tryd.underlying32 rfl Tryd.sizeOf3 rfl (GOk.no rfl) rfl rfl ?_ | refine R.fldAt Tryd.underlying32 rfl Tryd.sizeOf3 rfl (GOk.no rfl) rfl rfl ?_ | refine R.fldEl Tryd.underlying32 rfl Tryd.sizeOf3 rfl (GOk.no rfl) rfl rfl ?_
    refine R.ldP1 Tryd.isAgg3 (GOk.no rfl) rfl rfl rfl rfl ?_
    refine R.spell 61 rfl (show _ = vI 9 from vI_eq (by first | exact hk | (rw [show (j : Int).toNat = j from rfl]; exact hk))) ?_
    refine R.look1 Tryd.underlying57 Tryd.underlying3 rfl Tryd.zeroValue56 (GOk.no rfl) rfl rfl rfl rfl rfl rfl ?_
    refine R.callV (first := []) (caps := [15]) [] true ((con_34 l l[j]! s x hc hx (by omega)).ren (rn [(1003, 3), (1008, 8), (1013, 13), (1014, 14), (1015, 15)]) rfl) rfl (GOk.no rfl) (fun d h => by cases h; rfl) rfl trivial ⟨rfl, rfl, rfl, rfl, rfl, rfl, trivial⟩ rfl (fun _ => ⟨rfl, rfl, rfl, rfl, rfl, rfl, trivial⟩) ?_
    refine R.extract (GOk.no rfl) rfl rfl rfl ?_
    refine R.extract (GOk.no rfl) rfl rfl rfl ?_
    refine R.assign (GOk.no rfl) rfl rfl ?_
    refine R.assign (GOk.no rfl) rfl rfl ?_
    refine Run.nil ⟨by kernel_rfl, ?_⟩
    refine J.ret ?_
    exact FinQ.of ⟨ret_eq rfl (rfl), ret_eq rfl (rfl), trivial⟩ ⟨rfl, rfl, trivial⟩
theorem up14 (l : List Nd) (hl : l.length ≤ 1000000) (j : Nat) (hj : j < l.length) (level own : Int) (hlev : level > own) (kd : Int) (hk : (l[j]!).kind = kd) (es : List (Value × SV)) (he : mapVal (.int .i64 kd) (lvO m) = some es) (hv : ∃ i, mfind (.int .i64 kd) es = some (some (i, sI own))) (s : ByteArray) (x : Int)
    (hc : Con Tryd.prog 14 [sD l, sI (j : Int), sI own] [(2000, some (lvO m)), (2002, some (pow10 q))] [sS s, sI x] [(2000, some (lvO m)), (2002, some (pow10 q))] []) (hx : 0 ≤ x ∧ x ≤ 1000000000) (hs : s.size + 3 ≤ 100000000) :
    Con Tryd.prog 14 [sD l, sI (j : Int), sI level] [(2000, some (lvO m)), (2002, some (pow10 q))] [sS (paren s), sI (x + 1)] [(2000, some (lvO m)), (2002, some (pow10 q))] [] := by
  obtain ⟨iv, hv⟩ := hv
  have z1 : (⟨#[40]⟩ : ByteArray).size = 1 := rfl
  have z2 : (⟨#[41]⟩ : ByteArray).size = 1 := rfl
  refine con_of_J [] Tryd.func14 rfl rfl Tryd.ntmps14 rfl (Nat.le_of_ble_eq_true rfl) rfl rfl ?_
  refine J.seq ?_
  refine J.region ?_
  first | refine R.boxP rfl (GOk.no rfl) rfl rfl ?_ | refine R.boxA (GOk.no rfl) rfl rfl rfl ?_
  refine R.assign (GOk.no rfl) rfl rfl ?_
  refine R.assign (GOk.no rfl) rfl rfl ?_
  refine Run.nil ⟨by kernel_rfl, ?_⟩
  refine J.seq ?_
  refine J.region ?_
  first | refine R.fldPtr Tryd.underlying24 rfl Tryd.sizeOf22 rfl (GOk.no rfl) rfl rfl ?_ | refine R.fldAt Tryd.underlying24 rfl Tryd.sizeOf22 rfl (GOk.no rfl) rfl rfl ?_ | refine R.fldEl Tryd.underlying24 rfl Tryd.sizeOf22 rfl (GOk.no rfl) rfl rfl ?_
  first | refine R.ldP1 Tryd.isAgg22 (GOk.no rfl) rfl rfl rfl rfl ?_ | refine R.ldAt1 Tryd.isAgg22 (GOk.no rfl) rfl rfl rfl ?_ | refine R.ldB1 Tryd.isAgg22 (GOk.no rfl) rfl rfl rfl rfl ?_ | refine R.ldElM1 Tryd.isAgg22 (GOk.no rfl) rfl rfl rfl (by omega) rfl ?_
  refine R.move (GOk.no rfl) rfl rfl ?_
  refine R.idxM Tryd.underlying22 Tryd.sizeOf32 (GOk.no rfl) rfl rfl rfl (by omega) (by omega) ?_
  first | refine R.ldPA Tryd.isAgg32 Tryd.sizeOf32 (GOk.no rfl) rfl rfl rfl (Nat.le_of_ble_eq_true rfl) ?_ | refine R.ldAtA Tryd.isAgg32 Tryd.sizeOf32 (GOk.no rfl) rfl rfl (Nat.le_of_ble_eq_true rfl) ?_ | refine R.ldBA Tryd.isAgg32 Tryd.sizeOf32 (GOk.no rfl) rfl rfl rfl (Nat.le_of_ble_eq_true rfl) ?_ | refine R.ldElMA Tryd.isAgg32 Tryd.sizeOf32 (GOk.no rfl) rfl rfl rfl (by omega) (Nat.le_of_ble_eq_true rfl) ?_
  refine R.alloc _ (GOk.no rfl) rfl _ Tryd.zeroValue32 rfl rfl ?_
  first | refine R.stP Tryd.sizeOf32 (GOk.no rfl) rfl rfl rfl rfl rfl (Nat.le_of_ble_eq_true rfl) ?_ | refine R.stPB Tryd.sizeOf32 (GOk.no rfl) rfl rfl rfl rfl rfl ?_ | refine R.stB Tryd.sizeOf32 (GOk.no rfl) rfl rfl rfl rfl (Nat.le_of_ble_eq_true rfl) ?_
  refine Run.nil ⟨by kernel_rfl, ?_⟩
  refine J.seq ?_
  refine J.region ?_
  refine R.ldGM (κ := 2000) Tryd.isAgg52 (GOk.no rfl) rfl rfl ?_
  first | refine R.fldPtr Tryd.underlying32 rfl Tryd.sizeOf3 rfl (GOk.no rfl) rfl rfl ?_ | refine R.fldAt Tryd.underlying32 rfl Tryd.sizeOf3 rfl (GOk.no rfl) rfl rfl ?_ | refine R.fldEl Tryd.underlying32 rfl Tryd.sizeOf3 rfl (GOk.no rfl) rfl rfl ?_
  refine R.ldP1 Tryd.isAgg3 (GOk.no rfl) rfl rfl rfl rfl ?_
  refine R.spell 25 rfl (show _ = vI kd from vI_eq (by first | exact hk | (rw [show (j : Int).toNat = j from rfl]; exact hk))) ?_
  refine R.lookT (o := lvO m) Tryd.underlying52 Tryd.underlying3 rfl Tryd.zeroValue3 (GOk.no rfl) rfl rfl rfl rfl he hv ?_
  refine R.move (GOk.no rfl) rfl rfl ?_
  refine R.extract (GOk.no rfl) rfl rfl rfl ?_
  refine R.extract (GOk.no rfl) rfl rfl rfl ?_
  refine R.assign (GOk.no rfl) rfl rfl ?_
  refine R.assign (GOk.no rfl) rfl rfl ?_
  refine Run.nil ⟨by kernel_rfl, ?_⟩
  refine J.seq ?_
  refine J.seq ?_
  refine J.region ?_
  refine R.move (GOk.no rfl) rfl rfl ?_
  refine R.not (GOk.no rfl) rfl rfl ?_
  refine Run.nil ⟨by kernel_rfl, ?_⟩
  refine J.condF rfl ?_
  refine J.skip ?_
  refine J.seq ?_
  refine J.seq ?_
  refine J.region ?_
  refine R.move (GOk.no rfl) rfl rfl ?_
  refine R.move (GOk.no rfl) rfl rfl ?_
  refine R.gtr (GOk.no rfl) rfl rfl rfl ?_
  refine Run.nil ⟨by kernel_rfl, ?_⟩
  refine J.cond rfl (fun hc1 => ?_) (fun hc1 => ?_)
  · try simp only [decide_eq_true_eq, decide_eq_false_iff_not, beq_iff_eq, beq_eq_false_iff_ne, bne_iff_ne, bne_eq_false_iff_eq, ne_eq, Bool.not_eq_true', Bool.not_eq_false', Decidable.not_not, Int.toNat_natCast] at hc1
    refine J.seq ?_
    refine J.region ?_
    first | refine R.ldPA Tryd.isAgg24 Tryd.sizeOf24 (GOk.no rfl) rfl rfl rfl (Nat.le_of_ble_eq_true rfl) ?_ | refine R.ldAtA Tryd.isAgg24 Tryd.sizeOf24 (GOk.no rfl) rfl rfl (Nat.le_of_ble_eq_true rfl) ?_ | refine R.ldBA Tryd.isAgg24 Tryd.sizeOf24 (GOk.no rfl) rfl rfl rfl (Nat.le_of_ble_eq_true rfl) ?_ | refine R.ldElMA Tryd.isAgg24 Tryd.sizeOf24 (GOk.no rfl) rfl rfl rfl (by omega) (Nat.le_of_ble_eq_true rfl) ?_
    refine R.move (GOk.no rfl) rfl rfl ?_
    refine R.move (GOk.no rfl) rfl rfl ?_
    refine R.call0 [((.tmp 35), _), ((.tmp 36), _), ((.tmp 37), _)] true (hc) rfl (GOk.no rfl) (fun d h => by cases h; rfl) ⟨rfl, rfl, rfl, trivial⟩ ⟨rfl, rfl, trivial⟩ rfl (fun _ => ⟨rfl, rfl, trivial⟩) ?_
    refine R.move (GOk.no rfl) rfl rfl ?_
    refine R.extract (GOk.no rfl) rfl rfl rfl ?_
    refine R.extract (GOk.no rfl) rfl rfl rfl ?_
    refine R.assign (GOk.no rfl) rfl rfl ?_
    refine R.assign (GOk.no rfl) rfl rfl ?_
    refine Run.nil ⟨by kernel_rfl, ?_⟩
    refine J.seq ?_
    refine J.region ?_
    refine R.move (GOk.no rfl) rfl rfl ?_
    refine R.addS (GOk.no rfl) rfl rfl rfl (addOk (by omega)) ?_
    refine R.addS (GOk.no rfl) rfl rfl rfl (addOk (by simp only [ByteArray.size_append]; omega)) ?_
    refine R.move (GOk.no rfl) rfl rfl ?_
    refine R.add (GOk.no rfl) rfl rfl rfl ⟨by omega, by omega⟩ ?_
    refine R.assign (GOk.no rfl) rfl rfl ?_
    refine R.assign (GOk.no rfl) rfl rfl ?_
    refine Run.nil ⟨by kernel_rfl, ?_⟩
    refine J.ret ?_
    exact FinQ.of ⟨ret_eq rfl (rfl), ret_eq rfl (rfl), trivial⟩ ⟨rfl, rfl, trivial⟩
  · try simp only [decide_eq_true_eq, decide_eq_false_iff_not, beq_iff_eq, beq_eq_false_iff_ne, bne_iff_ne, bne_eq_false_iff_eq, ne_eq, Bool.not_eq_true', Bool.not_eq_false', Decidable.not_not, Int.toNat_natCast] at hc1
    exfalso; omega
end Go.Sc
