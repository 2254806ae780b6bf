/-
  PrintDeep: the walk of print.Class. (Printed by a program of ours.)
-/
import Derived.Test.YtfaepfnjilgioaaDoorScP2
set_option linter.all false
set_option linter.unusedSimpArgs false
set_option linter.unusedVariables false
namespace Go.Sc
open Go Go.Proofs Go.Abs
set_option maxRecDepth 4000

theorem con_12 (a : Cls) : Con Tryd.prog 12 [.pag (encC a)] [] [sS (clsText a)] [] [] := by
  refine con_of_J [] Tryd.func12 rfl rfl Tryd.ntmps12 rfl (Nat.le_of_ble_eq_true rfl) rfl rfl ?_
  refine J.seq ?_
  refine J.region ?_
  first | refine R.boxP rfl (GOk.no rfl) rfl rfl ?_ | refine R.boxA (GOk.no rfl) rfl rfl rfl ?_
  refine R.assign (GOk.no rfl) rfl rfl ?_
  refine Run.nil ⟨by kernel_rfl, ?_⟩
  refine J.seq ?_
  refine J.seq ?_
  refine J.region ?_
  first | refine R.ldPA Tryd.isAgg30 Tryd.sizeOf30 (GOk.no rfl) rfl rfl rfl (Nat.le_of_ble_eq_true rfl) ?_ | refine R.ldAtA Tryd.isAgg30 Tryd.sizeOf30 (GOk.no rfl) rfl rfl (Nat.le_of_ble_eq_true rfl) ?_ | refine R.ldBA Tryd.isAgg30 Tryd.sizeOf30 (GOk.no rfl) rfl rfl rfl (Nat.le_of_ble_eq_true rfl) ?_ | refine R.ldElMA Tryd.isAgg30 Tryd.sizeOf30 (GOk.no rfl) rfl rfl rfl (by omega) (Nat.le_of_ble_eq_true rfl) ?_
  refine R.call [((.tmp 7), _)] (con_17 a) rfl (GOk.no rfl) rfl ⟨rfl, trivial⟩ ?_
  refine R.eql (GOk.no rfl) rfl rfl rfl ?_
  refine Run.nil ⟨by kernel_rfl, ?_⟩
  refine J.cond rfl (fun hc1 => ?_) (fun hc1 => ?_)
  · try simp only [decide_eq_true_eq, decide_eq_false_iff_not, beq_iff_eq, beq_eq_false_iff_ne, bne_iff_ne, bne_eq_false_iff_eq, ne_eq, Bool.not_eq_true', Bool.not_eq_false', Decidable.not_not] at hc1
    refine J.seq ?_
    refine J.region ?_
    refine R.assign (GOk.no rfl) rfl rfl ?_
    refine Run.nil ⟨by kernel_rfl, ?_⟩
    refine J.ret ?_
    first | exact FinQ.of ⟨ret_eq rfl (svS (by rw [clsText, if_pos (by assumption)])), trivial⟩ trivial | exact FinQ.of ⟨ret_eq rfl (svS (by rw [clsText, if_neg (by assumption), ← hT, rowsC_end, List.append_nil]; rfl)), trivial⟩ trivial
  · try simp only [decide_eq_true_eq, decide_eq_false_iff_not, beq_iff_eq, beq_eq_false_iff_ne, bne_iff_ne, bne_eq_false_iff_eq, ne_eq, Bool.not_eq_true', Bool.not_eq_false', Decidable.not_not] at hc1
    refine J.skip ?_
    refine J.seq ?_
    refine J.region ?_
    refine R.assign (GOk.no rfl) rfl rfl ?_
    refine Run.nil ⟨by kernel_rfl, ?_⟩
    refine J.seq ?_
    refine J.seq ?_
    refine J.region ?_
    refine R.assign (GOk.no rfl) rfl rfl ?_
    refine Run.nil ⟨by kernel_rfl, ?_⟩
    refine J.block ?_
    refine J.gh (Gh.step ⟨[], [903], []⟩ [(4, vI ((0 : Nat) : Int)), (3, vC (.hs 903 0)), (1, vC (.ptr 1 0))] [(903, some (.hot 1 [])), (1, some (.pbox (encC a)))] trivial (by kernel_rfl) ⟨⟨_, rfl, Or.inl ⟨rfl, rfl⟩⟩, ⟨_, rfl, Or.inr (Or.inr (Or.inr ⟨_, rfl, rfl, rfl⟩))⟩, ⟨_, rfl, Or.inl ⟨rfl, rfl⟩⟩, trivial⟩ ⟨⟨_, rfl, Or.inr ⟨rfl, rfl, _, rfl⟩⟩, ⟨_, rfl, Or.inl ⟨_, rfl, Or.inl rfl, rfl⟩⟩, trivial⟩ (by kernel_rfl) (by kernel_rfl)) ?_
    refine J.loopG (fun (c : Nat) f b => ∃ acc : List ByteArray, (c ≤ 256 ∧ acc ++ rowsC a c = rowsC a 0 ∧ acc.length ≤ c ∧ ∀ x ∈ acc, x.size ≤ 65) ∧ f = Facts.fn [(4, vI ((c : Nat) : Int)), (3, vC (.hs 903 (acc.map eS).length)), (1, vC (.ptr 1 0))] ∧ b = BL.fn [(903, some (.hot 1 (acc.map eS))), (1, some (.pbox (encC a)))]) (fun c => 256 - c) 0 ⟨[], ⟨by omega, rfl, by simp, by simp⟩, rfl, rfl⟩ ?_
    rintro c f b ⟨acc, ⟨hI, hT, hN, hZ⟩, rfl, rfl⟩
    have hL := lastOf_ge a (255 - c) c
    refine J.seq ?_
    refine J.seq ?_
    refine J.region ?_
    refine R.move (GOk.no rfl) rfl rfl ?_
    refine R.lss (GOk.no rfl) rfl rfl rfl ?_
    refine Run.nil ⟨by kernel_rfl, ?_⟩
    refine J.cond rfl (fun hc2 => ?_) (fun hc2 => ?_)
    · try simp only [decide_eq_true_eq, decide_eq_false_iff_not, beq_iff_eq, beq_eq_false_iff_ne, bne_iff_ne, bne_eq_false_iff_eq, ne_eq, Bool.not_eq_true', Bool.not_eq_false', Decidable.not_not] at hc2
      refine J.skip ?_
      refine J.join (fun f b => ∃ (e : Nat) (acc' : List ByteArray), (e < 256 ∧ c ≤ e ∧ acc' ++ rowsC a (e + 1) = rowsC a 0 ∧ acc'.length ≤ e + 1 ∧ ∀ x ∈ acc', x.size ≤ 65) ∧ f = Facts.fn [(4, vI ((e : Nat) : Int)), (3, vC (.hs 903 (acc'.map eS).length)), (1, vC (.ptr 1 0))] ∧ b = BL.fn [(903, some (.hot 1 (acc'.map eS))), (1, some (.pbox (encC a)))]) ?_ ?_
      ·  -- behind b1
        rintro f b ⟨e, acc', ⟨he, hce, hT', hN', hZ'⟩, rfl, rfl⟩
        refine J.region ?_
        refine R.move (GOk.no rfl) rfl rfl ?_
        refine R.add (GOk.no rfl) rfl rfl rfl ⟨by omega, by omega⟩ ?_
        refine R.assign (GOk.no rfl) rfl rfl ?_
        refine Run.nil ⟨by kernel_rfl, ?_⟩
        exact toQ.mk (Gh.weak [(4, vI (((e + 1) : Nat) : Int)), (3, vC (.hs 903 (acc'.map eS).length)), (1, vC (.ptr 1 0))] [(903, some (.hot 1 (acc'.map eS))), (1, some (.pbox (encC a)))] ⟨rfl, rfl, rfl, trivial⟩ ⟨rfl, rfl, trivial⟩) ⟨e + 1, ⟨acc', ⟨by omega, hT', hN', hZ'⟩, rfl, rfl⟩, by omega⟩
      ·  -- b1
        refine J.block ?_
        refine J.seq ?_
        refine J.seq ?_
        refine J.region ?_
        first | refine R.ldPA Tryd.isAgg30 Tryd.sizeOf30 (GOk.no rfl) rfl rfl rfl (Nat.le_of_ble_eq_true rfl) ?_ | refine R.ldAtA Tryd.isAgg30 Tryd.sizeOf30 (GOk.no rfl) rfl rfl (Nat.le_of_ble_eq_true rfl) ?_ | refine R.ldBA Tryd.isAgg30 Tryd.sizeOf30 (GOk.no rfl) rfl rfl rfl (Nat.le_of_ble_eq_true rfl) ?_ | refine R.ldElMA Tryd.isAgg30 Tryd.sizeOf30 (GOk.no rfl) rfl rfl rfl (by omega) (Nat.le_of_ble_eq_true rfl) ?_
        refine R.move (GOk.no rfl) rfl rfl ?_
        refine R.conv (GOk.no rfl) rfl rfl Tryd.underlying3 Tryd.underlying5 ?_
        refine R.spell 16 rfl (show _ = vU8 ((c : Nat) : Int) from vI_eq (wrap_u8 (by omega) (by omega))) ?_
        refine R.call [((.tmp 14), _), ((.tmp 16), _)] (con_18 a c (by omega)) rfl (GOk.no rfl) rfl ⟨rfl, rfl, trivial⟩ ?_
        refine R.not (GOk.no rfl) rfl rfl ?_
        refine Run.nil ⟨by kernel_rfl, ?_⟩
        refine J.cond rfl (fun hc3 => ?_) (fun hc3 => ?_)
        · try simp only [decide_eq_true_eq, decide_eq_false_iff_not, beq_iff_eq, beq_eq_false_iff_ne, bne_iff_ne, bne_eq_false_iff_eq, ne_eq, Bool.not_eq_true', Bool.not_eq_false', Decidable.not_not] at hc3
          refine J.exit ?_
          first | exact toQ.mk (Gh.weak [(4, vI ((c : Nat) : Int)), (3, vC (.hs 903 (acc.map eS).length)), (1, vC (.ptr 1 0))] [(903, some (.hot 1 (acc.map eS))), (1, some (.pbox (encC a)))] ⟨rfl, rfl, rfl, trivial⟩ ⟨rfl, rfl, trivial⟩) ⟨c, acc, ⟨by omega, by omega, by rw [← rowsC_not (c := c) a (by omega) (by assumption)]; exact hT, by omega, hZ⟩, rfl, rfl⟩ | exact toQ.mk (Gh.step ⟨[], [], [(903, 45)]⟩ [(4, vI (((lastOf a (255 - c) c) : Nat) : Int)), (3, vC (.hs 903 ((acc ++ [piece c (lastOf a (255 - c) c)]).map eS).length)), (1, vC (.ptr 1 0))] [(903, some (.hot 1 ((acc ++ [piece c (lastOf a (255 - c) c)]).map eS))), (1, some (.pbox (encC a)))] trivial (by kernel_rfl) ⟨⟨_, rfl, Or.inl ⟨rfl, rfl⟩⟩, ⟨_, rfl, Or.inl ⟨congrArg (AC.hs 45) (by simp), rfl⟩⟩, ⟨_, rfl, Or.inl ⟨rfl, rfl⟩⟩, trivial⟩ ⟨⟨_, rfl, Or.inl ⟨_, rfl, ⟨congrArg (AO.hot 1) (by simp [SV.pcs]), rfl⟩, rfl⟩⟩, ⟨_, rfl, Or.inl ⟨_, rfl, Or.inl rfl, rfl⟩⟩, trivial⟩ (by kernel_rfl) (by kernel_rfl)) ⟨(lastOf a (255 - c) c), (acc ++ [piece c (lastOf a (255 - c) c)]), ⟨by omega, by omega, by rw [List.append_assoc, List.singleton_append, ← rowsC_has (c := c) a (by omega) (by assumption)]; exact hT, by simp; omega, fun x hx => (List.mem_append.1 hx).elim (hZ x) (fun h => by rw [List.mem_singleton.1 h]; exact piece_size _ _)⟩, rfl, rfl⟩
        · try simp only [decide_eq_true_eq, decide_eq_false_iff_not, beq_iff_eq, beq_eq_false_iff_ne, bne_iff_ne, bne_eq_false_iff_eq, ne_eq, Bool.not_eq_true', Bool.not_eq_false', Decidable.not_not] at hc3
          refine J.skip ?_
          refine J.seq ?_
          refine J.region ?_
          refine R.move (GOk.no rfl) rfl rfl ?_
          refine R.assign (GOk.no rfl) rfl rfl ?_
          refine Run.nil ⟨by kernel_rfl, ?_⟩
          refine J.joinF [(5, vI (((lastOf a (255 - c) c) : Nat) : Int)), (4, vI ((c : Nat) : Int)), (3, vC (.hs 903 (acc.map eS).length)), (1, vC (.ptr 1 0))] [(903, some (.hot 1 (acc.map eS))), (1, some (.pbox (encC a)))] ?_ ?_
          ·  -- behind b2
            refine J.seq ?_
            refine J.region ?_
            refine R.move (GOk.no rfl) rfl rfl ?_
            refine R.call [((.tmp 32), _)] (con_19 c (by omega)) rfl (GOk.no rfl) rfl ⟨rfl, trivial⟩ ?_
            refine R.assign (GOk.no rfl) rfl rfl ?_
            refine Run.nil ⟨by kernel_rfl, ?_⟩
            refine J.joinF [(6, vS (piece c (lastOf a (255 - c) c))), (5, vI (((lastOf a (255 - c) c) : Nat) : Int)), (4, vI ((c : Nat) : Int)), (3, vC (.hs 903 (acc.map eS).length)), (1, vC (.ptr 1 0))] [(903, some (.hot 1 (acc.map eS))), (1, some (.pbox (encC a)))] ?_ ?_
            ·  -- behind c36
              refine J.seq ?_
              refine J.region ?_
              refine R.move (GOk.no rfl) rfl rfl ?_
              refine R.move (GOk.no rfl) rfl rfl ?_
              refine R.litF [((.tmp 43), _)] (GOk.no rfl) rfl ⟨rfl, trivial⟩ Tryd.underlying46 Tryd.sizeOf9 Tryd.zeroValue9 rfl rfl rfl rfl ?_
              first | refine R.appH (bt := 16) Tryd.underlying46 Tryd.underlying46 Tryd.sizeOf9 Tryd.typeInfo9 rfl Tryd.zeroValue9 rfl (GOk.no rfl) rfl rfl rfl rfl rfl (by simp; omega) ?_ | refine R.appN (bt := 16) Tryd.underlying46 Tryd.underlying46 Tryd.sizeOf9 Tryd.typeInfo9 rfl Tryd.zeroValue9 rfl (GOk.no rfl) rfl rfl rfl (by simp) ?_
              refine R.assign (GOk.no rfl) rfl rfl ?_
              refine Run.nil ⟨by kernel_rfl, ?_⟩
              refine J.region ?_
              refine R.move (GOk.no rfl) rfl rfl ?_
              refine R.assign (GOk.no rfl) rfl rfl ?_
              refine Run.nil ⟨by kernel_rfl, ?_⟩
              first | exact toQ.mk (Gh.weak [(4, vI ((c : Nat) : Int)), (3, vC (.hs 903 (acc.map eS).length)), (1, vC (.ptr 1 0))] [(903, some (.hot 1 (acc.map eS))), (1, some (.pbox (encC a)))] ⟨rfl, rfl, rfl, trivial⟩ ⟨rfl, rfl, trivial⟩) ⟨c, acc, ⟨by omega, by omega, by rw [← rowsC_not (c := c) a (by omega) (by assumption)]; exact hT, by omega, hZ⟩, rfl, rfl⟩ | exact toQ.mk (Gh.step ⟨[], [], [(903, 45)]⟩ [(4, vI (((lastOf a (255 - c) c) : Nat) : Int)), (3, vC (.hs 903 ((acc ++ [piece c (lastOf a (255 - c) c)]).map eS).length)), (1, vC (.ptr 1 0))] [(903, some (.hot 1 ((acc ++ [piece c (lastOf a (255 - c) c)]).map eS))), (1, some (.pbox (encC a)))] trivial (by kernel_rfl) ⟨⟨_, rfl, Or.inl ⟨rfl, rfl⟩⟩, ⟨_, rfl, Or.inl ⟨congrArg (AC.hs 45) (by simp), rfl⟩⟩, ⟨_, rfl, Or.inl ⟨rfl, rfl⟩⟩, trivial⟩ ⟨⟨_, rfl, Or.inl ⟨_, rfl, ⟨congrArg (AO.hot 1) (by simp [SV.pcs]), rfl⟩, rfl⟩⟩, ⟨_, rfl, Or.inl ⟨_, rfl, Or.inl rfl, rfl⟩⟩, trivial⟩ (by kernel_rfl) (by kernel_rfl)) ⟨(lastOf a (255 - c) c), (acc ++ [piece c (lastOf a (255 - c) c)]), ⟨by omega, by omega, by rw [List.append_assoc, List.singleton_append, ← rowsC_has (c := c) a (by omega) (by assumption)]; exact hT, by simp; omega, fun x hx => (List.mem_append.1 hx).elim (hZ x) (fun h => by rw [List.mem_singleton.1 h]; exact piece_size _ _)⟩, rfl, rfl⟩
            ·  -- c36
              refine J.seq ?_
              refine J.region ?_
              refine R.move (GOk.no rfl) rfl rfl ?_
              refine R.move (GOk.no rfl) rfl rfl ?_
              refine R.gtr (GOk.no rfl) rfl rfl rfl ?_
              refine Run.nil ⟨by kernel_rfl, ?_⟩
              refine J.cond rfl (fun hc4 => ?_) (fun hc4 => ?_)
              · try simp only [decide_eq_true_eq, decide_eq_false_iff_not, beq_iff_eq, beq_eq_false_iff_ne, bne_iff_ne, bne_eq_false_iff_eq, ne_eq, Bool.not_eq_true', Bool.not_eq_false', Decidable.not_not] at hc4
                refine J.region ?_
                refine R.move (GOk.no rfl) rfl rfl ?_
                refine R.move (GOk.no rfl) rfl rfl ?_
                refine R.call [((.tmp 38), _)] (con_19 (lastOf a (255 - c) c) (by omega)) rfl (GOk.no rfl) rfl ⟨rfl, trivial⟩ ?_
                refine R.addS (GOk.no rfl) rfl rfl rfl (Int.le_trans (Int.ofNat_le.2 (Nat.add_le_add (Nat.le_refl _) (hexS_size _))) (by decide)) ?_
                refine R.addS (GOk.no rfl) rfl rfl rfl (Int.le_trans (Int.ofNat_le.2 (Nat.add_le_add (hexS_size _) (sz33 _))) (by decide)) ?_
                refine R.assign (GOk.no rfl) rfl rfl ?_
                refine Run.nil ⟨by kernel_rfl, ?_⟩
                first | exact toQ.mk (Gh.weak [(6, vS (piece c (lastOf a (255 - c) c))), (5, vI (((lastOf a (255 - c) c) : Nat) : Int)), (4, vI ((c : Nat) : Int)), (3, vC (.hs 903 (acc.map eS).length)), (1, vC (.ptr 1 0))] [(903, some (.hot 1 (acc.map eS))), (1, some (.pbox (encC a)))] ⟨fs_eq rfl (vS_eq (by rw [piece, if_pos (by omega)])), rfl, rfl, rfl, rfl, trivial⟩ ⟨rfl, rfl, trivial⟩) ⟨rfl, rfl⟩ | exact toQ.mk (Gh.weak [(6, vS (piece c (lastOf a (255 - c) c))), (5, vI (((lastOf a (255 - c) c) : Nat) : Int)), (4, vI ((c : Nat) : Int)), (3, vC (.hs 903 (acc.map eS).length)), (1, vC (.ptr 1 0))] [(903, some (.hot 1 (acc.map eS))), (1, some (.pbox (encC a)))] ⟨fs_eq rfl (vS_eq (by rw [piece, if_neg (by omega)])), rfl, rfl, rfl, rfl, trivial⟩ ⟨rfl, rfl, trivial⟩) ⟨rfl, rfl⟩
              · try simp only [decide_eq_true_eq, decide_eq_false_iff_not, beq_iff_eq, beq_eq_false_iff_ne, bne_iff_ne, bne_eq_false_iff_eq, ne_eq, Bool.not_eq_true', Bool.not_eq_false', Decidable.not_not] at hc4
                refine J.skip ?_
                first | exact toQ.mk (Gh.weak [(6, vS (piece c (lastOf a (255 - c) c))), (5, vI (((lastOf a (255 - c) c) : Nat) : Int)), (4, vI ((c : Nat) : Int)), (3, vC (.hs 903 (acc.map eS).length)), (1, vC (.ptr 1 0))] [(903, some (.hot 1 (acc.map eS))), (1, some (.pbox (encC a)))] ⟨fs_eq rfl (vS_eq (by rw [piece, if_pos (by omega)])), rfl, rfl, rfl, rfl, trivial⟩ ⟨rfl, rfl, trivial⟩) ⟨rfl, rfl⟩ | exact toQ.mk (Gh.weak [(6, vS (piece c (lastOf a (255 - c) c))), (5, vI (((lastOf a (255 - c) c) : Nat) : Int)), (4, vI ((c : Nat) : Int)), (3, vC (.hs 903 (acc.map eS).length)), (1, vC (.ptr 1 0))] [(903, some (.hot 1 (acc.map eS))), (1, some (.pbox (encC a)))] ⟨fs_eq rfl (vS_eq (by rw [piece, if_neg (by omega)])), rfl, rfl, rfl, rfl, trivial⟩ ⟨rfl, rfl, trivial⟩) ⟨rfl, rfl⟩
          ·  -- b2
            refine J.block ?_
            refine J.gh (Gh.weak [(5, vI ((c : Nat) : Int)), (4, vI ((c : Nat) : Int)), (3, vC (.hs 903 (acc.map eS).length)), (1, vC (.ptr 1 0))] [(903, some (.hot 1 (acc.map eS))), (1, some (.pbox (encC a)))] ⟨rfl, rfl, rfl, rfl, trivial⟩ ⟨rfl, rfl, trivial⟩) ?_
            refine J.loopG (fun (l : Nat) f b => (c ≤ l ∧ l < 256 ∧ lastOf a (255 - l) l = lastOf a (255 - c) c) ∧ f = Facts.fn [(5, vI ((l : Nat) : Int)), (4, vI ((c : Nat) : Int)), (3, vC (.hs 903 (acc.map eS).length)), (1, vC (.ptr 1 0))] ∧ b = BL.fn [(903, some (.hot 1 (acc.map eS))), (1, some (.pbox (encC a)))]) (fun l => 256 - l) c ⟨⟨by omega, by omega, rfl⟩, rfl, rfl⟩ ?_
            rintro l f b ⟨⟨hl1, hl2, hl3⟩, rfl, rfl⟩
            refine J.seq ?_
            refine J.seq ?_
            refine J.region ?_
            refine R.move (GOk.no rfl) rfl rfl ?_
            refine R.add (GOk.no rfl) rfl rfl rfl ⟨by omega, by omega⟩ ?_
            refine R.lss (GOk.no rfl) rfl rfl rfl ?_
            refine R.move (GOk.no rfl) rfl rfl ?_
            refine R.case 23 rfl (fun hg5 => ?_) (fun hg5 => ?_)
            · try simp only [decide_eq_true_eq, decide_eq_false_iff_not, beq_iff_eq, beq_eq_false_iff_ne, bne_iff_ne, bne_eq_false_iff_eq, ne_eq, Bool.not_eq_true', Bool.not_eq_false', Decidable.not_not] at hg5
              first | refine R.ldPA Tryd.isAgg30 Tryd.sizeOf30 (GOk.of rfl rfl rfl _ rfl) rfl rfl rfl (Nat.le_of_ble_eq_true rfl) ?_ | refine R.ldAtA Tryd.isAgg30 Tryd.sizeOf30 (GOk.of rfl rfl rfl _ rfl) rfl rfl (Nat.le_of_ble_eq_true rfl) ?_ | refine R.ldBA Tryd.isAgg30 Tryd.sizeOf30 (GOk.of rfl rfl rfl _ rfl) rfl rfl rfl (Nat.le_of_ble_eq_true rfl) ?_ | refine R.ldElMA Tryd.isAgg30 Tryd.sizeOf30 (GOk.of rfl rfl rfl _ rfl) rfl rfl rfl (by omega) (Nat.le_of_ble_eq_true rfl) ?_
              refine R.move (GOk.of rfl rfl rfl _ rfl) rfl rfl ?_
              refine R.add (GOk.of rfl rfl rfl _ rfl) rfl rfl rfl ⟨by omega, by omega⟩ ?_
              refine R.conv (GOk.of rfl rfl rfl _ rfl) rfl rfl Tryd.underlying3 Tryd.underlying5 ?_
              refine R.spell 27 rfl (show _ = vU8 ((l + 1 : Nat) : Int) from vI_eq (wrap_u8 (by omega) (by omega))) ?_
              refine R.call [((.tmp 24), _), ((.tmp 27), _)] (con_18 a (l + 1) (by omega)) rfl (GOk.of rfl rfl rfl _ rfl) rfl ⟨rfl, rfl, trivial⟩ ?_
              first | refine R.pickT (GOk.no rfl) rfl rfl rfl ?_ | refine R.pickF (GOk.no rfl) rfl rfl rfl ?_
              refine Run.nil ⟨by kernel_rfl, ?_⟩
              refine J.cond rfl (fun hc6 => ?_) (fun hc6 => ?_)
              · try simp only [decide_eq_true_eq, decide_eq_false_iff_not, beq_iff_eq, beq_eq_false_iff_ne, bne_iff_ne, bne_eq_false_iff_eq, ne_eq, Bool.not_eq_true', Bool.not_eq_false', Decidable.not_not] at hc6
                refine J.skip ?_
                refine J.block ?_
                refine J.region ?_
                refine R.move (GOk.no rfl) rfl rfl ?_
                refine R.add (GOk.no rfl) rfl rfl rfl ⟨by omega, by omega⟩ ?_
                refine R.assign (GOk.no rfl) rfl rfl ?_
                refine Run.nil ⟨by kernel_rfl, ?_⟩
                exact toQ.mk (Gh.weak [(5, vI (((l + 1) : Nat) : Int)), (4, vI ((c : Nat) : Int)), (3, vC (.hs 903 (acc.map eS).length)), (1, vC (.ptr 1 0))] [(903, some (.hot 1 (acc.map eS))), (1, some (.pbox (encC a)))] ⟨rfl, rfl, rfl, rfl, trivial⟩ ⟨rfl, rfl, trivial⟩) ⟨(l + 1), ⟨⟨by omega, by omega, by rw [← lastOf_has a (by omega) (by assumption)]; exact hl3⟩, rfl, rfl⟩, by omega⟩
              · try simp only [decide_eq_true_eq, decide_eq_false_iff_not, beq_iff_eq, beq_eq_false_iff_ne, bne_iff_ne, bne_eq_false_iff_eq, ne_eq, Bool.not_eq_true', Bool.not_eq_false', Decidable.not_not] at hc6
                refine J.exit ?_
                exact toQ.mk (Gh.weak [(5, vI (((lastOf a (255 - c) c) : Nat) : Int)), (4, vI ((c : Nat) : Int)), (3, vC (.hs 903 (acc.map eS).length)), (1, vC (.ptr 1 0))] [(903, some (.hot 1 (acc.map eS))), (1, some (.pbox (encC a)))] ⟨fs_eq rfl (vI_eq (congrArg _ ((lastOf_stop a (by first | exact Or.inl (by omega) | exact Or.inr (by assumption))).symm.trans hl3))), rfl, rfl, rfl, trivial⟩ ⟨rfl, rfl, trivial⟩) ⟨rfl, rfl⟩
            · try simp only [decide_eq_true_eq, decide_eq_false_iff_not, beq_iff_eq, beq_eq_false_iff_ne, bne_iff_ne, bne_eq_false_iff_eq, ne_eq, Bool.not_eq_true', Bool.not_eq_false', Decidable.not_not] at hg5
              refine R.pass (GOk.of rfl rfl rfl _ rfl) rfl ?_
              refine R.pass (GOk.of rfl rfl rfl _ rfl) rfl ?_
              refine R.pass (GOk.of rfl rfl rfl _ rfl) rfl ?_
              refine R.pass (GOk.of rfl rfl rfl _ rfl) rfl ?_
              refine R.pass (GOk.of rfl rfl rfl _ rfl) rfl ?_
              first | refine R.pickT (GOk.no rfl) rfl rfl rfl ?_ | refine R.pickF (GOk.no rfl) rfl rfl rfl ?_
              refine Run.nil ⟨by kernel_rfl, ?_⟩
              refine J.condF rfl ?_
              refine J.exit ?_
              exact toQ.mk (Gh.weak [(5, vI (((lastOf a (255 - c) c) : Nat) : Int)), (4, vI ((c : Nat) : Int)), (3, vC (.hs 903 (acc.map eS).length)), (1, vC (.ptr 1 0))] [(903, some (.hot 1 (acc.map eS))), (1, some (.pbox (encC a)))] ⟨fs_eq rfl (vI_eq (congrArg _ ((lastOf_stop a (by first | exact Or.inl (by omega) | exact Or.inr (by assumption))).symm.trans hl3))), rfl, rfl, rfl, trivial⟩ ⟨rfl, rfl, trivial⟩) ⟨rfl, rfl⟩
    · try simp only [decide_eq_true_eq, decide_eq_false_iff_not, beq_iff_eq, beq_eq_false_iff_ne, bne_iff_ne, bne_eq_false_iff_eq, ne_eq, Bool.not_eq_true', Bool.not_eq_false', Decidable.not_not] at hc2
      refine J.exit ?_
      refine J.seq ?_
      have hc256 : c = 256 := by omega
      subst hc256
      refine J.gh (Gh.step ⟨[(903, 1, (acc.map eS))], [], []⟩ [(3, vL 1 (acc.map eS)), (1, vC (.ptr 1 0))] [(1, some (.pbox (encC a)))] ⟨rfl, trivial⟩ (by kernel_rfl) ⟨⟨_, rfl, Or.inr (Or.inr (Or.inl ⟨_, _, _, _, rfl, rfl, rfl, rfl⟩))⟩, ⟨_, rfl, Or.inl ⟨rfl, rfl⟩⟩, trivial⟩ ⟨⟨_, rfl, Or.inl ⟨_, rfl, Or.inl rfl, rfl⟩⟩, trivial⟩ (by kernel_rfl) (by kernel_rfl)) ?_
      refine J.region ?_
      refine R.move (GOk.no rfl) rfl rfl ?_
      refine R.call [((.tmp 47), _), ((.const _), _)] (con_20 acc ⟨#[44]⟩ (by omega) (by have := joinB_len (sep := ⟨#[44]⟩) (by decide) hN hZ; omega)) rfl (GOk.no rfl) rfl ⟨rfl, rfl, trivial⟩ ?_
      refine R.addS (GOk.no rfl) rfl rfl rfl (by have := joinB_len (sep := ⟨#[44]⟩) (by decide) hN hZ; show (((1 + (Lib.join _ _).toArray.size : Nat)) : Int) ≤ 9223372036854775807; rw [List.size_toArray]; omega) ?_
      refine R.addS (GOk.no rfl) rfl rfl rfl (by have := joinB_len (sep := ⟨#[44]⟩) (by decide) hN hZ; rw [ByteArray.size_append]; show (((1 + (Lib.join _ _).toArray.size + 1 : Nat)) : Int) ≤ 9223372036854775807; rw [List.size_toArray]; omega) ?_
      refine R.assign (GOk.no rfl) rfl rfl ?_
      refine Run.nil ⟨by kernel_rfl, ?_⟩
      refine J.ret ?_
      first | exact FinQ.of ⟨ret_eq rfl (svS (by rw [clsText, if_pos (by assumption)])), trivial⟩ trivial | exact FinQ.of ⟨ret_eq rfl (svS (by rw [clsText, if_neg (by assumption), ← hT, rowsC_end, List.append_nil]; rfl)), trivial⟩ trivial
end Go.Sc
