/-
  PrintDeep: the text of a tree. (Joins the walks.)
-/
import Derived.Test.YtfaepfnjilgioaaDoorScP7
set_option linter.all false
set_option linter.unusedSimpArgs false
set_option linter.unusedVariables false
namespace Go.Sc
open Go Go.Proofs Go.Abs
set_option maxRecDepth 4000

variable {q m : Obj}
abbrev BBt (q m : Obj) : BL := [(2000, some (lvO m)), (2002, some (pow10 q))]
/-- what print.text does at a node -/
def TxC (q m : Obj) (l : List Nd) (j : Nat) (level : Int) (x : ByteArray × Int) : Prop := Con Tryd.prog 14 [sD l, sI (j : Int), sI level] (BBt q m) [sS x.1, sI x.2] (BBt q m) []

theorem mapVal_lv (kd : Int) (es : List (Value × SV)) (h : es = [(.int .i64 4, sI 1), (.int .i64 5, sI 0), (.int .i64 6, sI 2), (.int .i64 7, sI 2)]) (ha : keysApart (.int .i64 kd) es = true) : mapVal (.int .i64 kd) (lvO m) = some es := by
  subst h; show (if keysApart _ _ then _ else _) = _; rw [if_pos ha]

theorem kidx {k s : Nat} (hs : 0 < s) (x : Int) (hx : x = (k : Int) + s - 1) : x = ((k + s - 1 : Nat) : Int) := by omega

/-- from a node's own level to all levels -/
theorem up_all {l : List Nd} (hl : l.length ≤ 1000000) {j : Nat} (hj : j < l.length) (t : Tree) (hk : (l[j]!).kind = (t.top 0).kind)
    (hb : ∀ level, level ≤ t.own → TxC q m l j level t.base) (hx : 0 ≤ t.base.2 ∧ t.base.2 ≤ 1000000000) (hs : t.base.1.size + 3 ≤ 100000000) (level : Int) (hlev : level ≤ 3) : TxC q m l j level (t.text level) := by
  unfold Tree.text up
  by_cases h : level > t.own
  · rw [if_pos h]
    have hc := hb t.own (Int.le_refl _)
    cases t with
    | seq a b => exact up14 l hl j hj level 1 h 4 hk _ (mapVal_lv 4 _ rfl rfl) ⟨_, rfl⟩ _ _ hc hx hs
    | orr a b => exact up14 l hl j hj level 0 h 5 hk _ (mapVal_lv 5 _ rfl rfl) ⟨_, rfl⟩ _ _ hc hx hs
    | star a => exact up14 l hl j hj level 2 h 6 hk _ (mapVal_lv 6 _ rfl rfl) ⟨_, rfl⟩ _ _ hc hx hs
    | rep lo hi a => exact up14 l hl j hj level 2 h 7 hk _ (mapVal_lv 7 _ rfl rfl) ⟨_, rfl⟩ _ _ hc hx hs
    | emp | byt | txt | frame | wide => simp only [Tree.own] at h; omega
  · rw [if_neg h]
    exact hb level (by omega)

theorem up_all' {own level : Int} {x : ByteArray × Int} : (up own level x) = up own level x := rfl

theorem con14 (l : List Nd) (hl : l.length ≤ 1000000) : ∀ (t : Tree) (k : Nat), t.ok → TAt l t k → t.weight ≤ 50000000 → ∀ level : Int, level ≤ 3 → TxC q m l (k + t.size - 1) level (t.text level) := by
  intro t
  induction t with
  | emp =>
    intro k ht h hw level hlev
    have hlen := h.len
    have hg := h.get
    have hsz := base_size _ ht
    refine up_all hl (by simp only [Tree.size] at *; omega) _ (by rw [hg]; rfl) (fun lv hlv => ?_) (by omega) (by omega) level hlev
    exact b14_1 l hl _ (by simp only [Tree.size] at *; omega) lv hlv (by rw [hg]; rfl)
  | byt c =>
    intro k ht h hw level hlev
    have hlen := h.len
    have hg := h.get
    have hsz := base_size _ ht
    refine up_all hl (by simp only [Tree.size] at *; omega) _ (by rw [hg]; rfl) (fun lv hlv => ?_) (by omega) (by omega) level hlev
    have := b14_2 (q := q) (m := m) l hl (k + (Tree.byt c).size - 1) (by simp only [Tree.size] at *; omega) lv hlv (by rw [hg]; rfl)
    rw [hg] at this
    exact this
  | txt s =>
    intro k ht h hw level hlev
    have hlen := h.len
    have hg := h.get
    have hsz := base_size _ ht
    refine up_all hl (by simp only [Tree.size] at *; omega) _ (by rw [hg]; rfl) (fun lv hlv => ?_) (by omega) (by omega) level hlev
    have := b14_3 (q := q) (m := m) l hl (k + (Tree.txt s).size - 1) (by simp only [Tree.size] at *; omega) lv hlv (by rw [hg]; rfl) (by rw [hg]; simp only [Tree.weight] at hw; simp only [Tree.top]; omega)
    rw [hg] at this
    exact this
  | seq a b iha ihb =>
    intro k ht h hw level hlev
    have hlen := h.len
    have hg := h.get
    have hsz := base_size _ ht
    have pa := a.size_pos
    have pb := b.size_pos
    have wa := up_size (own := a.own) (level := 1) (base_size a ht.1)
    have wb := up_size (own := b.own) (level := 2) (base_size b ht.2)
    simp only [Tree.weight] at hw
    refine up_all hl (by simp only [Tree.size] at *; omega) _ (by rw [hg]; rfl) (fun lv hlv => ?_) (by simp only [Tree.weight] at hsz; omega) (by simp only [Tree.weight] at hsz; omega) level hlev
    have ca := iha k ht.1 h.seqL (by omega) 1 (by omega)
    have cb := ihb (k + a.size) ht.2 h.seqR (by omega) 2 (by omega)
    refine b14_4 l hl _ (by simp only [Tree.size] at *; omega) lv hlv (by rw [hg]; rfl) _ _ _ _ ?_ ?_ (by omega)
    · rw [hg, show ((Tree.seq a b).top k).a = ((k + a.size - 1 : Nat) : Int) from by simp only [Tree.top]; omega]; exact ca
    · rw [hg, show ((Tree.seq a b).top k).b = ((k + a.size + b.size - 1 : Nat) : Int) from by simp only [Tree.top]; omega]; exact cb
  | orr a b iha ihb =>
    intro k ht h hw level hlev
    have hlen := h.len
    have hg := h.get
    have hsz := base_size _ ht
    have pa := a.size_pos
    have pb := b.size_pos
    have wa := up_size (own := a.own) (level := 0) (base_size a ht.1)
    have wb := up_size (own := b.own) (level := 1) (base_size b ht.2)
    simp only [Tree.weight] at hw
    refine up_all hl (by simp only [Tree.size] at *; omega) _ (by rw [hg]; rfl) (fun lv hlv => ?_) (by simp only [Tree.weight] at hsz; omega) (by simp only [Tree.weight] at hsz; omega) level hlev
    have ca := iha k ht.1 h.orL (by omega) 0 (by omega)
    have cb := ihb (k + a.size) ht.2 h.orR (by omega) 1 (by omega)
    refine b14_5 l hl _ (by simp only [Tree.size] at *; omega) lv hlv (by rw [hg]; rfl) _ _ _ _ ?_ ?_ (by omega)
    · rw [hg, show ((Tree.orr a b).top k).a = ((k + a.size - 1 : Nat) : Int) from by simp only [Tree.top]; omega]; exact ca
    · rw [hg, show ((Tree.orr a b).top k).b = ((k + a.size + b.size - 1 : Nat) : Int) from by simp only [Tree.top]; omega]; exact cb
  | star a ih =>
    intro k ht h hw level hlev
    have hlen := h.len
    have hg := h.get
    have hsz := base_size _ ht
    have pa := a.size_pos
    have wa := up_size (own := a.own) (level := 2) (base_size a ht)
    simp only [Tree.weight] at hw
    refine up_all hl (by simp only [Tree.size] at *; omega) _ (by rw [hg]; rfl) (fun lv hlv => ?_) (by simp only [Tree.weight] at hsz; omega) (by simp only [Tree.weight] at hsz; omega) level hlev
    have ca := ih k ht h.star (by omega) 2 (by omega)
    refine b14_6 l hl _ (by simp only [Tree.size] at *; omega) lv hlv (by rw [hg]; rfl) _ _ ?_ (by omega)
    rw [hg, show ((Tree.star a).top k).a = ((k + a.size - 1 : Nat) : Int) from by simp only [Tree.top]; omega]; exact ca
  | rep lo hi a ih =>
    intro k ht h hw level hlev
    have hlen := h.len
    have hg := h.get
    have hsz := base_size _ ht
    have pa := a.size_pos
    have wa := up_size (own := a.own) (level := 2) (base_size a ht.2)
    simp only [Tree.weight] at hw
    refine up_all hl (by simp only [Tree.size] at *; omega) _ (by rw [hg]; rfl) (fun lv hlv => ?_) (by simp only [Tree.weight] at hsz; omega) (by simp only [Tree.weight] at hsz; omega) level hlev
    have ca := ih k ht.2 h.rep (by omega) 2 (by omega)
    have := b14_7 (q := q) (m := m) l hl (k + (Tree.rep lo hi a).size - 1) (by simp only [Tree.size] at *; omega) lv hlv (by rw [hg]; rfl) (up a.own 2 a.base).1 (up a.own 2 a.base).2 (by
      rw [hg, show ((Tree.rep lo hi a).top k).a = ((k + a.size - 1 : Nat) : Int) from by simp only [Tree.top]; omega]; exact ca) (by omega) (by rw [hg]; exact ht.1)
    rw [hg] at this
    exact this
  | frame a ih =>
    intro k ht h hw level hlev
    have hlen := h.len
    have hg := h.get
    have hsz := base_size _ ht
    have pa := a.size_pos
    have wa := up_size (own := a.own) (level := 0) (base_size a ht)
    simp only [Tree.weight] at hw
    refine up_all hl (by simp only [Tree.size] at *; omega) _ (by rw [hg]; rfl) (fun lv hlv => ?_) (by simp only [Tree.weight] at hsz; omega) (by simp only [Tree.weight] at hsz; omega) level hlev
    have ca := ih k ht h.frame (by omega) 0 (by omega)
    refine b14_8 l hl _ (by simp only [Tree.size] at *; omega) lv hlv (by rw [hg]; rfl) _ _ ?_ (by omega) (by omega)
    rw [hg, show ((Tree.frame a).top k).a = ((k + a.size - 1 : Nat) : Int) from by simp only [Tree.top]; omega]; exact ca
  | wide a ih =>
    intro k ht h hw level hlev
    have hlen := h.len
    have hg := h.get
    have hsz := base_size _ ht
    have pa := a.size_pos
    have wa := up_size (own := a.own) (level := 0) (base_size a ht)
    simp only [Tree.weight] at hw
    refine up_all hl (by simp only [Tree.size] at *; omega) _ (by rw [hg]; rfl) (fun lv hlv => ?_) (by simp only [Tree.weight] at hsz; omega) (by simp only [Tree.weight] at hsz; omega) level hlev
    have ca := ih k ht h.wide (by omega) 0 (by omega)
    refine b14_9 l hl _ (by simp only [Tree.size] at *; omega) lv hlv (by rw [hg]; rfl) _ _ ?_ (by omega) (by omega)
    rw [hg, show ((Tree.wide a).top k).a = ((k + a.size - 1 : Nat) : Int) from by simp only [Tree.top]; omega]; exact ca

/-- print.text of the whole -/
theorem con14_all (t : Tree) (ht : t.ok) (hw : t.weight ≤ 50000000) (hn : t.size ≤ 1000000) : Con Tryd.prog 14 [sD (t.flat 0), sI (((t.flat 0).length : Int) - 1), sI 0] (BBt q m) [sS (t.text 0).1, sI (t.text 0).2] (BBt q m) [] := by
  have := con14 (q := q) (m := m) (t.flat 0) (by rw [Tree.flat_len]; exact hn) t 0 ht (TAt.all t) hw 0 (by omega)
  have pa := t.size_pos
  rw [show ((t.flat 0).length : Int) - 1 = ((0 + t.size - 1 : Nat) : Int) from by rw [Tree.flat_len]; omega]
  exact this
end Go.Sc
