/-
  Trees of descriptions, their nodes, their texts. No program in sight.
-/
import Derived.Test.YtfaepfnjilgioaaDoorScB1
import Derived.Lib.ItoaNum
set_option linter.all false
set_option linter.unusedSimpArgs false
set_option linter.unusedVariables false
namespace Go.Sc
open Go Go.Abs

inductive Tree where
  | emp
  | byt (c : Cls)
  | txt (s : ByteArray)
  | seq (a b : Tree)
  | orr (a b : Tree)
  | star (a : Tree)
  | rep (lo hi : Int) (a : Tree)
  | frame (a : Tree)
  | wide (a : Tree)

def Tree.size : Tree → Nat
  | .emp | .byt _ | .txt _ => 1
  | .seq a b | .orr a b => a.size + b.size + 1
  | .star a | .rep _ _ a | .frame a | .wide a => a.size + 1
theorem Tree.size_pos (t : Tree) : 0 < t.size := by cases t <;> simp [Tree.size]

/-- the last node of a tree whose first one is k -/
def Tree.top (k : Nat) : Tree → Nd
  | .emp => { (default : Nd) with kind := 1 }
  | .byt c => { (default : Nd) with kind := 2, cls := c }
  | .txt s => { (default : Nd) with kind := 3, text := s }
  | .seq a b => { (default : Nd) with kind := 4, a := (k : Int) + a.size - 1, b := (k : Int) + a.size + b.size - 1 }
  | .orr a b => { (default : Nd) with kind := 5, a := (k : Int) + a.size - 1, b := (k : Int) + a.size + b.size - 1 }
  | .star a => { (default : Nd) with kind := 6, a := (k : Int) + a.size - 1 }
  | .rep lo hi a => { (default : Nd) with kind := 7, a := (k : Int) + a.size - 1, lo := lo, hi := hi }
  | .frame a => { (default : Nd) with kind := 8, a := (k : Int) + a.size - 1 }
  | .wide a => { (default : Nd) with kind := 9, a := (k : Int) + a.size - 1 }
/-- a tree's nodes -/
def Tree.flat (k : Nat) (t : Tree) : List Nd := match t with
  | .emp | .byt _ | .txt _ => [t.top k]
  | .seq a b | .orr a b => a.flat k ++ (b.flat (k + a.size) ++ [t.top k])
  | .star a | .rep _ _ a | .frame a | .wide a => a.flat k ++ [t.top k]
theorem Tree.flat_len (t : Tree) : ∀ k, (t.flat k).length = t.size := by
  induction t with
  | emp | byt | txt => intro k; simp [Tree.flat, Tree.size]
  | seq a b iha ihb | orr a b iha ihb => intro k; simp [Tree.flat, Tree.size, iha, ihb]; omega
  | star a ih | rep _ _ a ih | frame a ih | wide a ih => intro k; simp [Tree.flat, Tree.size, ih]
/-- has a tree its form? -/
def Tree.ok : Tree → Prop
  | .emp | .byt _ => True
  | .txt s => textOk s = true
  | .seq a b | .orr a b => a.ok ∧ b.ok
  | .star a | .frame a | .wide a => a.ok
  | .rep lo hi a => (0 ≤ lo ∧ lo ≤ hi ∧ hi ≤ 255) ∧ a.ok

/-- kinds' levels -/
def Tree.own : Tree → Int
  | .orr _ _ => 0
  | .seq _ _ => 1
  | .star _ | .rep _ _ _ => 2
  | _ => 3
def maxI (a b : Int) : Int := if b > a then b else a
def paren (s : ByteArray) : ByteArray := ⟨#[40]⟩ ++ s ++ ⟨#[41]⟩
def up (own level : Int) (x : ByteArray × Int) : ByteArray × Int := if level > own then (paren x.1, x.2 + 1) else x
def itoaB (n : Int) : ByteArray := ⟨(Lib.itoa n).toArray⟩
def repB (lo hi : Int) : ByteArray := ⟨#[123]⟩ ++ itoaB lo ++ ⟨#[44]⟩ ++ itoaB hi ++ ⟨#[125]⟩
/-- a node's text, and how deep it is -/
def Tree.base : Tree → ByteArray × Int
  | .emp => (⟨#[40, 41]⟩, 1)
  | .byt c => (clsText c, 0)
  | .txt s => (⟨#[34]⟩ ++ s ++ ⟨#[34]⟩, 0)
  | .seq a b => ((up a.own 1 a.base).1 ++ ⟨#[]⟩ ++ (up b.own 2 b.base).1, maxI (up a.own 1 a.base).2 (up b.own 2 b.base).2)
  | .orr a b => ((up a.own 0 a.base).1 ++ ⟨#[124]⟩ ++ (up b.own 1 b.base).1, maxI (up a.own 0 a.base).2 (up b.own 1 b.base).2)
  | .star a => (⟨#[]⟩ ++ (up a.own 2 a.base).1 ++ ⟨#[42]⟩, (up a.own 2 a.base).2)
  | .rep lo hi a => (⟨#[]⟩ ++ (up a.own 2 a.base).1 ++ repB lo hi, (up a.own 2 a.base).2)
  | .frame a => (⟨#[98, 40]⟩ ++ (up a.own 0 a.base).1 ++ ⟨#[41]⟩, (up a.own 0 a.base).2 + 1)
  | .wide a => (⟨#[119, 40]⟩ ++ (up a.own 0 a.base).1 ++ ⟨#[41]⟩, (up a.own 0 a.base).2 + 1)
/-- .. at a level -/
def Tree.text (t : Tree) (level : Int) : ByteArray × Int := up t.own level t.base

/-- a bound on a text -/
def Tree.weight : Tree → Nat
  | .emp => 10
  | .byt _ => 17000
  | .txt s => s.size + 10
  | .seq a b | .orr a b => a.weight + b.weight + 10
  | .star a | .frame a | .wide a => a.weight + 10
  | .rep _ _ a => a.weight + 100
theorem paren_size (s : ByteArray) : (paren s).size = s.size + 2 := by
  unfold paren
  rw [ByteArray.size_append, ByteArray.size_append]
  have h1 : (⟨#[40]⟩ : ByteArray).size = 1 := rfl
  have h2 : (⟨#[41]⟩ : ByteArray).size = 1 := rfl
  omega
theorem decDigits_len (n : Nat) (h : n ≤ 255) : (Lib.decDigits n).length ≤ 3 := by
  rw [Lib.decDigits]
  split
  · simp
  · rw [List.length_append, Lib.decDigits]
    split
    · simp
    · rw [List.length_append, Lib.decDigits, dif_pos (by omega)]; simp
theorem itoaB_size {n : Int} (h0 : 0 ≤ n) (h : n ≤ 255) : (itoaB n).size ≤ 3 := by
  have : (itoaB n).size = (Lib.itoa n).length := by simp [itoaB, ByteArray.size]
  rw [this, Lib.itoa, if_neg (by omega)]
  exact decDigits_len _ (by omega)
theorem rowsOf_len (a : Cls) : ∀ n c, (rowsOf a n c).length ≤ n
  | 0, _ => by simp [rowsOf]
  | n + 1, c => by
    rw [rowsOf]
    split
    · split
      · have := rowsOf_len a n (lastOf a (255 - c) c + 1); simp; omega
      · have := rowsOf_len a n (c + 1); omega
    · simp
theorem rowsOf_sizes (a : Cls) : ∀ n c, ∀ x ∈ rowsOf a n c, x.size ≤ 65
  | 0, _ => by simp [rowsOf]
  | n + 1, c => by
    rw [rowsOf]
    intro x hx
    split at hx
    · split at hx
      · rcases List.mem_cons.1 hx with rfl | hx
        · exact piece_size _ _
        · exact rowsOf_sizes a n _ x hx
      · exact rowsOf_sizes a n _ x hx
    · simp at hx
theorem clsText_size (c : Cls) : (clsText c).size ≤ 16990 := by
  unfold clsText
  split
  · decide
  · have h := joinB_len (l := rowsC c 0) (sep := ⟨#[44]⟩) (by decide) (rowsOf_len c 256 0) (rowsOf_sizes c 256 0)
    rw [ByteArray.size_append, ByteArray.size_append]
    have h1 : (⟨#[60]⟩ : ByteArray).size = 1 := rfl
    have h2 : (⟨#[62]⟩ : ByteArray).size = 1 := rfl
    have h3 : (joinB (rowsC c 0) ⟨#[44]⟩).size = (Lib.join ((rowsC c 0).map (·.data.toList)) [44]).length := by simp [joinB, ByteArray.size]
    have h4 : (⟨#[44]⟩ : ByteArray).data.toList = [44] := rfl
    rw [h4] at h
    omega
theorem up_size {own level : Int} {x : ByteArray × Int} {m : Nat} (h : x.1.size + 2 ≤ m ∧ 0 ≤ x.2 ∧ x.2 + 1 ≤ m) : (up own level x).1.size ≤ m ∧ 0 ≤ (up own level x).2 ∧ (up own level x).2 ≤ m := by
  unfold up
  split
  · simp only [paren_size]; omega
  · omega
theorem maxI_le {a b : Int} {m : Int} (h : a ≤ m) (h' : b ≤ m) : maxI a b ≤ m := by unfold maxI; split <;> omega
theorem maxI_ge {a b : Int} (h : 0 ≤ a) : 0 ≤ maxI a b := by unfold maxI; split <;> omega
theorem repB_size {lo hi : Int} (h0 : 0 ≤ lo) (h1 : lo ≤ hi) (h2 : hi ≤ 255) : (repB lo hi).size ≤ 9 := by
  have a := itoaB_size (n := lo) h0 (by omega)
  have b := itoaB_size (n := hi) (by omega) h2
  unfold repB
  simp only [ByteArray.size_append]
  have h1 : (⟨#[123]⟩ : ByteArray).size = 1 := rfl
  have h2 : (⟨#[44]⟩ : ByteArray).size = 1 := rfl
  have h3 : (⟨#[125]⟩ : ByteArray).size = 1 := rfl
  omega
theorem Tree.weight_pos (t : Tree) : 10 ≤ t.weight := by cases t <;> simp only [Tree.weight] <;> omega
theorem base_size (t : Tree) (ht : t.ok) : t.base.1.size + 2 ≤ t.weight ∧ 0 ≤ t.base.2 ∧ t.base.2 + 1 ≤ t.weight := by
  have c34 : (⟨#[34]⟩ : ByteArray).size = 1 := rfl
  have c124 : (⟨#[124]⟩ : ByteArray).size = 1 := rfl
  have c0 : (⟨#[]⟩ : ByteArray).size = 0 := rfl
  have c42 : (⟨#[42]⟩ : ByteArray).size = 1 := rfl
  have c41 : (⟨#[41]⟩ : ByteArray).size = 1 := rfl
  have c40 : (⟨#[40, 41]⟩ : ByteArray).size = 2 := rfl
  have c98 : (⟨#[98, 40]⟩ : ByteArray).size = 2 := rfl
  have c119 : (⟨#[119, 40]⟩ : ByteArray).size = 2 := rfl
  induction t with
  | emp => simp only [Tree.base, Tree.weight]; omega
  | byt c => have := clsText_size c; simp only [Tree.base, Tree.weight]; omega
  | txt s => simp only [Tree.base, Tree.weight, ByteArray.size_append]; omega
  | seq a b iha ihb =>
    have h1 := up_size (own := a.own) (level := 1) (iha ht.1)
    have h2 := up_size (own := b.own) (level := 2) (ihb ht.2)
    simp only [Tree.base, Tree.weight, ByteArray.size_append]
    have h3 := maxI_le (a := (up a.own 1 a.base).2) (b := (up b.own 2 b.base).2) (m := a.weight + b.weight) (by omega) (by omega)
    have h4 := maxI_ge (a := (up a.own 1 a.base).2) (b := (up b.own 2 b.base).2) h1.2.1
    omega
  | orr a b iha ihb =>
    have h1 := up_size (own := a.own) (level := 0) (iha ht.1)
    have h2 := up_size (own := b.own) (level := 1) (ihb ht.2)
    simp only [Tree.base, Tree.weight, ByteArray.size_append]
    have h3 := maxI_le (a := (up a.own 0 a.base).2) (b := (up b.own 1 b.base).2) (m := a.weight + b.weight) (by omega) (by omega)
    have h4 := maxI_ge (a := (up a.own 0 a.base).2) (b := (up b.own 1 b.base).2) h1.2.1
    omega
  | star a ih =>
    have h1 := up_size (own := a.own) (level := 2) (ih ht)
    simp only [Tree.base, Tree.weight, ByteArray.size_append]; omega
  | rep lo hi a ih =>
    have h1 := up_size (own := a.own) (level := 2) (ih ht.2)
    have h2 := repB_size ht.1.1 ht.1.2.1 ht.1.2.2
    simp only [Tree.base, Tree.weight, ByteArray.size_append]; omega
  | frame a ih | wide a ih =>
    have h1 := up_size (own := a.own) (level := 0) (ih ht)
    simp only [Tree.base, Tree.weight, ByteArray.size_append]; omega

/-! ### a tree's nodes in a list -/
theorem Tree.flat_snoc (t : Tree) (k : Nat) : ∃ l, t.flat k = l ++ [t.top k] ∧ l.length + 1 = t.size := by
  cases t with
  | emp | byt | txt => exact ⟨[], rfl, rfl⟩
  | seq a b | orr a b => exact ⟨a.flat k ++ b.flat (k + a.size), by simp [Tree.flat], by simp [Tree.flat_len, Tree.size]⟩
  | star a | rep _ _ a | frame a | wide a => exact ⟨a.flat k, rfl, by simp [Tree.flat_len, Tree.size]⟩
/-- the tree's nodes stand in the list, from k on -/
def TAt (l : List Nd) (t : Tree) (k : Nat) : Prop := ∃ p s, l = p ++ (t.flat k ++ s) ∧ p.length = k
theorem TAt.all (t : Tree) : TAt (t.flat 0) t 0 := ⟨[], [], by simp, rfl⟩
theorem TAt.len {l : List Nd} {t : Tree} {k : Nat} (h : TAt l t k) : k + t.size ≤ l.length := by
  obtain ⟨p, s, rfl, rfl⟩ := h
  simp [Tree.flat_len]
theorem TAt.get {l : List Nd} {t : Tree} {k : Nat} (h : TAt l t k) : l[k + t.size - 1]! = t.top k := by
  obtain ⟨p, s, rfl, rfl⟩ := h
  obtain ⟨q, hq, hl⟩ := t.flat_snoc p.length
  rw [hq]
  have : p ++ (q ++ [t.top p.length] ++ s) = (p ++ q) ++ (t.top p.length :: s) := by simp
  rw [this, show p.length + t.size - 1 = (p ++ q).length from by simp; omega]
  simp
theorem TAt.left {l : List Nd} {a b : Tree} {k : Nat} {x : List Nd} (h : ∃ p s, l = p ++ ((a.flat k ++ (b.flat (k + a.size) ++ x)) ++ s) ∧ p.length = k) : TAt l a k ∧ TAt l b (k + a.size) := by
  obtain ⟨p, s, rfl, rfl⟩ := h
  exact ⟨⟨p, b.flat (p.length + a.size) ++ x ++ s, by simp, rfl⟩, ⟨p ++ a.flat p.length, x ++ s, by simp, by simp [Tree.flat_len]⟩⟩
theorem TAt.one {l : List Nd} {a : Tree} {k : Nat} {x : List Nd} (h : ∃ p s, l = p ++ ((a.flat k ++ x) ++ s) ∧ p.length = k) : TAt l a k := by
  obtain ⟨p, s, rfl, rfl⟩ := h
  exact ⟨p, x ++ s, by simp, rfl⟩

/-! ### from a form to a tree -/
theorem nd_eq {n m : Nd} (h : n.same m = true) : n = m := Nd.same_iff.1 h
theorem seg_snoc {l : List Nd} {k j : Nat} (h : k ≤ j) (hj : j < l.length) : (l.take (j + 1)).drop k = (l.take j).drop k ++ [l[j]!] := by
  rw [List.take_succ_eq_append_getElem hj, List.drop_append_of_le_length (by simp; omega), getElem!_pos l j hj]
theorem seg_cat {l : List Nd} {k i j : Nat} (h : k ≤ i) (hi : i ≤ j) (hj : j ≤ l.length) : (l.take j).drop k = (l.take i).drop k ++ (l.take j).drop i := by
  have e : l.take j = l.take i ++ (l.take j).drop i := by
    have := (List.take_append_drop i (l.take j)).symm
    rwa [List.take_take, Nat.min_eq_left hi] at this
  conv => lhs; rw [e]
  rw [List.drop_append_of_le_length (by simp; omega)]
/-- nodes whose first one is told are a tree's -/
theorem tree_of_fst (l : List Nd) : ∀ j : Nat, j ≤ l.length → 0 ≤ fstN l j → ∃ (t : Tree) (k : Nat), fstN l j = k ∧ k + t.size = j ∧ t.ok ∧ (l.take j).drop k = t.flat k := by
  intro j
  induction j using Nat.strongRecOn with
  | _ j ih =>
    intro hj h0
    cases j with
    | zero => rw [fstN] at h0; omega
    | succ j =>
      have hF := fstN_le l j
      rw [fstN] at h0 ⊢
      simp only at h0 ⊢
      have leaf : ∀ (t : Tree), t.flat j = [t.top j] → t.size = 1 → t.ok → l[j]! = t.top j → ∃ (t : Tree) (k : Nat), (j : Int) = k ∧ k + t.size = j + 1 ∧ t.ok ∧ (l.take (j + 1)).drop k = t.flat k := by
        intro t h1 h2 h3 h4
        refine ⟨t, j, rfl, by omega, h3, ?_⟩
        rw [seg_snoc (Nat.le_refl _) (by omega), h1, h4]; simp
      have one : ∀ (f : Tree → Tree), (∀ t k, (f t).flat k = t.flat k ++ [(f t).top k]) → (∀ t, (f t).size = t.size + 1) → (∀ t, t.ok → (f t).ok) → 0 ≤ fstN l j →
          (∀ (t : Tree) (k : Nat), k + t.size = j → l[j]! = (f t).top k) → ∃ (t : Tree) (k : Nat), fstN l j = k ∧ k + t.size = j + 1 ∧ t.ok ∧ (l.take (j + 1)).drop k = t.flat k := by
        intro f h1 h2 h3 h4 h5
        obtain ⟨t, k, g1, g2, g3, g4⟩ := ih j (by omega) (by omega) h4
        refine ⟨f t, k, g1, by rw [h2]; omega, h3 t g3, ?_⟩
        rw [seg_snoc (by omega) (by omega), g4, h1, h5 t k g2]
      by_cases k1 : (l[j]!).kind = 1
      · rw [if_pos k1] at h0 ⊢
        split at h0
        · rename_i hs; rw [if_pos hs]
          exact leaf .emp rfl rfl trivial ((nd_eq hs).trans (by rw [k1]; rfl))
        · omega
      rw [if_neg k1] at h0 ⊢
      by_cases k2 : (l[j]!).kind = 2
      · rw [if_pos k2] at h0 ⊢
        split at h0
        · rename_i hs; rw [if_pos hs]
          exact leaf (.byt (l[j]!).cls) rfl rfl trivial ((nd_eq hs).trans (by rw [k2]; rfl))
        · omega
      rw [if_neg k2] at h0 ⊢
      by_cases k3 : (l[j]!).kind = 3
      · rw [if_pos k3] at h0 ⊢
        split at h0
        · rename_i ht; rw [if_pos ht]
          split at h0
          · rename_i hs; rw [if_pos hs]
            exact leaf (.txt (l[j]!).text) rfl rfl ht ((nd_eq hs).trans (by rw [k3]; rfl))
          · omega
        · omega
      rw [if_neg k3] at h0 ⊢
      by_cases k6 : (l[j]!).kind = 6 ∨ (l[j]!).kind = 8 ∨ (l[j]!).kind = 9
      · rw [if_pos k6] at h0 ⊢
        split at h0
        · rename_i hs; rw [if_pos hs]
          have hn := nd_eq hs
          rcases k6 with k6 | k6 | k6
          · exact one .star (fun _ _ => rfl) (fun _ => rfl) (fun _ h => h) h0 fun t k e => hn.trans (by rw [k6, ← e]; simp [Tree.top])
          · exact one .frame (fun _ _ => rfl) (fun _ => rfl) (fun _ h => h) h0 fun t k e => hn.trans (by rw [k6, ← e]; simp [Tree.top])
          · exact one .wide (fun _ _ => rfl) (fun _ => rfl) (fun _ h => h) h0 fun t k e => hn.trans (by rw [k6, ← e]; simp [Tree.top])
        · omega
      rw [if_neg k6] at h0 ⊢
      by_cases k7 : (l[j]!).kind = 7
      · rw [if_pos k7] at h0 ⊢
        split at h0
        · omega
        · rename_i hb; rw [if_neg hb]
          split at h0
          · rename_i hs; rw [if_pos hs]
            have hn := nd_eq hs
            exact one (.rep (l[j]!).lo (l[j]!).hi) (fun _ _ => rfl) (fun _ => rfl) (fun _ h => ⟨by omega, h⟩) h0 fun t k e => hn.trans (by rw [k7, ← e]; simp [Tree.top])
          · omega
      rw [if_neg k7] at h0 ⊢
      by_cases k4 : (l[j]!).kind = 4 ∨ (l[j]!).kind = 5
      · rw [if_pos k4] at h0 ⊢
        split at h0
        · omega
        · rename_i hb; rw [if_neg hb]
          split at h0
          · rename_i hs; rw [if_pos hs]
            have hn := nd_eq hs
            rw [dif_pos (by omega)] at h0 ⊢
            obtain ⟨b, kb, b1, b2, b3, b4⟩ := ih j (by omega) (by omega) (by omega)
            rw [b1, Int.toNat_natCast] at h0 ⊢
            obtain ⟨a, k, a1, a2, a3, a4⟩ := ih kb (by omega) (by omega) h0
            subst a2
            rcases k4 with k4 | k4
            · refine ⟨.seq a b, k, a1, by simp only [Tree.size]; omega, ⟨a3, b3⟩, ?_⟩
              rw [seg_snoc (by omega) (by omega), seg_cat (i := k + a.size) (by omega) (by omega) (by omega), a4, b4, Tree.flat, List.append_assoc]
              congr 3
              exact hn.trans (by rw [k4, b1, ← b2]; simp [Tree.top])
            · refine ⟨.orr a b, k, a1, by simp only [Tree.size]; omega, ⟨a3, b3⟩, ?_⟩
              rw [seg_snoc (by omega) (by omega), seg_cat (i := k + a.size) (by omega) (by omega) (by omega), a4, b4, Tree.flat, List.append_assoc]
              congr 3
              exact hn.trans (by rw [k4, b1, ← b2]; simp [Tree.top])
          · omega
      rw [if_neg k4] at h0
      omega
theorem tree_of_form {l : List Nd} (h : formB l = true) : ∃ t : Tree, t.ok ∧ l = t.flat 0 := by
  simp only [formB, Bool.and_eq_true, decide_eq_true_eq, beq_iff_eq] at h
  obtain ⟨t, k, h1, h2, h3, h4⟩ := tree_of_fst l l.length (Nat.le_refl _) (by omega)
  have : k = 0 := by omega
  subst this
  exact ⟨t, h3, by simpa using h4⟩

/-! ### trees moved -/
theorem mv_top (t : Tree) (k y : Nat) : mv (y : Int) (t.top k) = t.top (k + y) := by
  cases t <;> simp [Tree.top, mv, mvA, mvB] <;> omega
theorem mv_flat (t : Tree) (y : Nat) : ∀ k, (t.flat k).map (mv (y : Int)) = t.flat (k + y) := by
  induction t with
  | emp | byt | txt => intro k; simp only [Tree.flat, List.map_cons, List.map_nil, mv_top]
  | seq a b iha ihb | orr a b iha ihb => intro k; simp only [Tree.flat, List.map_append, List.map_cons, List.map_nil, iha, ihb, mv_top]; rw [show k + a.size + y = k + y + a.size from by omega]
  | star a ih | rep _ _ a ih | frame a ih | wide a ih => intro k; simp only [Tree.flat, List.map_append, List.map_cons, List.map_nil, ih, mv_top]
theorem TAt.seqL {l : List Nd} {a b : Tree} {k : Nat} (h : TAt l (.seq a b) k) : TAt l a k := (TAt.left (x := [(Tree.seq a b).top k]) h).1
theorem TAt.seqR {l : List Nd} {a b : Tree} {k : Nat} (h : TAt l (.seq a b) k) : TAt l b (k + a.size) := (TAt.left (x := [(Tree.seq a b).top k]) h).2
theorem TAt.orL {l : List Nd} {a b : Tree} {k : Nat} (h : TAt l (.orr a b) k) : TAt l a k := (TAt.left (x := [(Tree.orr a b).top k]) h).1
theorem TAt.orR {l : List Nd} {a b : Tree} {k : Nat} (h : TAt l (.orr a b) k) : TAt l b (k + a.size) := (TAt.left (x := [(Tree.orr a b).top k]) h).2
theorem TAt.star {l : List Nd} {a : Tree} {k : Nat} (h : TAt l (.star a) k) : TAt l a k := TAt.one (x := [(Tree.star a).top k]) h
theorem TAt.rep {l : List Nd} {a : Tree} {lo hi : Int} {k : Nat} (h : TAt l (.rep lo hi a) k) : TAt l a k := TAt.one (x := [(Tree.rep lo hi a).top k]) h
theorem TAt.frame {l : List Nd} {a : Tree} {k : Nat} (h : TAt l (.frame a) k) : TAt l a k := TAt.one (x := [(Tree.frame a).top k]) h
theorem TAt.wide {l : List Nd} {a : Tree} {k : Nat} (h : TAt l (.wide a) k) : TAt l a k := TAt.one (x := [(Tree.wide a).top k]) h

/-- the numbers of a tree's nodes -/
theorem flat_bound (t : Tree) : ∀ k, ∀ x ∈ t.flat k, (0 ≤ x.a ∧ x.a ≤ k + t.size) ∧ (0 ≤ x.b ∧ x.b ≤ k + t.size) := by
  induction t with
  | emp | byt | txt => intro k x hx; simp only [Tree.flat, List.mem_singleton] at hx; subst hx; simp [Tree.top, default]; omega
  | seq a b iha ihb | orr a b iha ihb =>
    intro k x hx
    have := a.size_pos
    have := b.size_pos
    simp only [Tree.flat, List.mem_append, List.mem_singleton] at hx
    rcases hx with hx | hx | rfl
    · have := iha k x hx; simp only [Tree.size]; omega
    · have := ihb _ x hx; simp only [Tree.size]; omega
    · simp only [Tree.top, Tree.size]; omega
  | star a ih | rep _ _ a ih | frame a ih | wide a ih =>
    intro k x hx
    have := a.size_pos
    simp only [Tree.flat, List.mem_append, List.mem_singleton] at hx
    rcases hx with hx | rfl
    · have := ih k x hx; simp only [Tree.size]; omega
    · simp [Tree.top, Tree.size, default]; omega
theorem flat_I64 (t : Tree) (ht : t.size ≤ 1000000) : ∀ x ∈ t.flat 0, I64 x.a ∧ I64 x.b := by
  intro x hx
  have := flat_bound t 0 x hx
  unfold I64; omega
theorem flat_mvOk (t : Tree) (y : Nat) (hy : y ≤ 1000000) (ht : t.size ≤ 1000000) : ∀ x ∈ t.flat 0, mvOk y x := by
  intro x hx
  have := flat_bound t 0 x hx
  unfold mvOk I64; omega
theorem wrap_flat (kind lo hi : Int) (f : Tree → Tree) (t : Tree) (h : (f t).flat 0 = t.flat 0 ++ [(f t).top 0]) (h2 : (f t).top 0 = { (default : Nd) with kind := kind, a := (t.size : Int) - 1, lo := lo, hi := hi }) :
    wrapL kind lo hi (t.flat 0) = (f t).flat 0 := by
  rw [wrapL, h, h2, Tree.flat_len]
theorem pair_or (t u : Tree) : pairL 5 (t.flat 0) (u.flat 0) = (Tree.orr t u).flat 0 := by
  rw [pairL, Tree.flat, Tree.flat_len, Tree.flat_len, mv_flat]
  simp [Tree.top]
theorem pair_seq (t u : Tree) : pairL 4 (t.flat 0) (u.flat 0) = (Tree.seq t u).flat 0 := by
  rw [pairL, Tree.flat, Tree.flat_len, Tree.flat_len, mv_flat]
  simp [Tree.top]
theorem wrap_frame (t : Tree) : wrapL 8 0 0 (t.flat 0) = (Tree.frame t).flat 0 := wrap_flat 8 0 0 .frame t rfl (by simp [Tree.top, default])
theorem wrap_star (t : Tree) : wrapL 6 0 0 (t.flat 0) = (Tree.star t).flat 0 := wrap_flat 6 0 0 .star t rfl (by simp [Tree.top, default])
/-- a weight, told by the nodes -/
def ndW (n : Nd) : Nat := 17000 + n.text.size
theorem weight_flat (t : Tree) : ∀ k, t.weight ≤ ((t.flat k).map ndW).sum := by
  induction t with
  | emp | byt | txt => intro k; simp [Tree.weight, Tree.flat, ndW, Tree.top, default] <;> omega
  | seq a b iha ihb | orr a b iha ihb => intro k; have := iha k; have := ihb (k + a.size); simp [Tree.weight, Tree.flat, ndW, Tree.top, default]; omega
  | star a ih | rep _ _ a ih | frame a ih | wide a ih => intro k; have := ih k; simp [Tree.weight, Tree.flat, ndW, Tree.top, default]; omega
theorem sum_take {l : List Nd} : ∀ k, k ≤ l.length → ((l.take k).map ndW).sum = 17000 * k + txtSum l k
  | 0, _ => by simp [txtSum]
  | k + 1, h => by
    have := sum_take (l := l) k (by omega)
    rw [List.take_succ_eq_append_getElem (by omega), List.map_append, List.sum_append, txtSum, getElem!_pos l k (by omega)]
    simp only [List.map_cons, List.map_nil, List.sum_cons, List.sum_nil, ndW]
    omega
theorem few_weight {t : Tree} (h : few (t.flat 0) = true) : t.weight ≤ 2000000 ∧ t.size ≤ 100 := by
  simp only [few, Bool.and_eq_true, decide_eq_true_eq] at h
  have h1 := weight_flat t 0
  have h2 := sum_take (l := t.flat 0) (t.flat 0).length (Nat.le_refl _)
  have h3 := t.flat_len 0
  rw [List.take_length] at h2
  rw [Nat.min_eq_left (by omega)] at h
  omega
end Go.Sc
