/-
  Descriptions and their parts as plain data, and how they are read. No program in sight.
-/
import Derived.Test.YtfaepfnjilgioaaDoorScA26
import Derived.Lib.Join
set_option linter.all false
set_option linter.unusedSimpArgs false
set_option linter.unusedVariables false
namespace Go.Sc
open Go Go.Abs

abbrev pI (n : Int) : PC := .v (.int .i64 n)
abbrev pU (n : Int) : PC := .v (.int .u64 n)
abbrev p8 (n : Int) : PC := .v (.int .u8 n)
abbrev pB (b : Bool) : PC := .v (.bool b)
abbrev pS (s : ByteArray) : PC := .v (.string s)
abbrev sI (n : Int) : SV := .one (.p (pI n))
abbrev s8 (n : Int) : SV := .one (.p (p8 n))
abbrev sB (b : Bool) : SV := .one (.p (pB b))
abbrev sS (s : ByteArray) : SV := .one (.p (pS s))
abbrev sL (k : Nat) (l : List (List PC)) : SV := .one (.p (.sl k l))

/-- a class: four words -/
structure Cls where
  c0 : Int
  c1 : Int
  c2 : Int
  c3 : Int
instance : Inhabited Cls := ⟨⟨0, 0, 0, 0⟩⟩
def Cls.get (a : Cls) : Nat → Int
  | 0 => a.c0
  | 1 => a.c1
  | 2 => a.c2
  | _ => a.c3
def encC (a : Cls) : List PC := [pU a.c0, pU a.c1, pU a.c2, pU a.c3]
theorem encC_get (a : Cls) {i : Nat} (h : i < 4) : (encC a)[i]? = some (pU (a.get i)) := by
  match i, h with
  | 0, _ => rfl
  | 1, _ => rfl
  | 2, _ => rfl
  | 3, _ => rfl
  | n + 4, h => omega

/-- has a class a byte? -/
def Cls.has (a : Cls) (c : Nat) : Bool := (a.get (c / 64)).fdiv (2 ^ (c % 64)) % 2 == 1

/-- how many of the bytes below k -/
def Cls.count (a : Cls) : Nat → Int
  | 0 => 0
  | k + 1 => a.count k + if a.has k then 1 else 0

/-- a node -/
structure Nd where
  kind : Int
  a : Int
  b : Int
  lo : Int
  hi : Int
  cls : Cls
  text : ByteArray
instance : Inhabited Nd := ⟨⟨0, 0, 0, 0, 0, default, ⟨#[]⟩⟩⟩
def encN (n : Nd) : List PC := [pI n.kind, pI n.a, pI n.b, pI n.lo, pI n.hi, pU n.cls.c0, pU n.cls.c1, pU n.cls.c2, pU n.cls.c3, pS n.text]
def pN (l : List Nd) : PC := .sl 10 (l.map encN)
def sN (l : List Nd) : SV := .one (.p (pN l))
/-- a description -/
def sD (l : List Nd) : SV := .pag [pN l]

theorem wrap_u8 {n : Int} (h0 : 0 ≤ n) (h1 : n < 256) : IntKind.wrap .u8 n = n := by
  unfold IntKind.wrap
  simp [IntKind.bits, IntKind.signed]
  omega
theorem wrap_u64 {n : Int} (h0 : 0 ≤ n) (h1 : n < 18446744073709551616) : IntKind.wrap .u64 n = n := by
  unfold IntKind.wrap
  simp [IntKind.bits, IntKind.signed]
  omega

theorem Cls.count_bound (a : Cls) : ∀ k, 0 ≤ a.count k ∧ a.count k ≤ k
  | 0 => by simp [Cls.count]
  | k + 1 => by
    have := a.count_bound k
    simp only [Cls.count]
    split <;> omega

theorem quo_nat {c m : Nat} (h : c < 9223372036854775807) : IntKind.wrap .i64 ((c : Int).tdiv (m : Int)) = ((c / m : Nat) : Int) := by
  have e : (c : Int).tdiv (m : Int) = ((c / m : Nat) : Int) := rfl
  rw [e]
  have : c / m ≤ c := Nat.div_le_self c m
  generalize c / m = q at this
  exact wrap_i64 ⟨by omega, by omega⟩

theorem ext_le (s : ByteArray) (a b : Nat) : (s.extract a b).size ≤ s.size := by
  rw [ByteArray.size_extract]; omega

/-- the digits -/
def dg : ByteArray := ⟨#[48, 49, 50, 51, 52, 53, 54, 55, 56, 57, 97, 98, 99, 100, 101, 102]⟩
/-- a byte's two digits -/
def hexS (c : Nat) : ByteArray := dg.extract (c / 16) (c / 16 + 1) ++ dg.extract (c % 16) (c % 16 + 1)
theorem hexS_size (c : Nat) : (hexS c).size ≤ 32 := by
  unfold hexS
  rw [ByteArray.size_append]
  have h1 := ext_le dg (c / 16) (c / 16 + 1)
  have h2 := ext_le dg (c % 16) (c % 16 + 1)
  have h3 : dg.size = 16 := rfl
  omega

/-- the class of the bytes that a row says yes to: a word of it -/
def wordOf (l : Nat → Bool) : Nat → Int
  | 0 => 0
  | k + 1 => wordOf l k + if l k then 2 ^ k else 0
def clsOf (l : Nat → Bool) : Cls := ⟨wordOf l 64, wordOf (fun i => l (64 + i)) 64, wordOf (fun i => l (128 + i)) 64, wordOf (fun i => l (192 + i)) 64⟩
theorem wordOf_bound (l : Nat → Bool) : ∀ k, 0 ≤ wordOf l k ∧ wordOf l k < 2 ^ k
  | 0 => by simp [wordOf]
  | k + 1 => by
    have := wordOf_bound l k
    have h2 : (2 : Int) ^ (k + 1) = 2 ^ k + 2 ^ k := by rw [Int.pow_succ]; omega
    simp only [wordOf]
    split <;> omega

def ofVal (f : Nat → Bool) (w k j : Nat) : Int := if j < w then wordOf (fun i => f (64 * j + i)) 64 else if j = w then wordOf (fun i => f (64 * j + i)) k else 0
def ofCells (f : Nat → Bool) (w k : Nat) : List PC := [pU (ofVal f w k 0), pU (ofVal f w k 1), pU (ofVal f w k 2), pU (ofVal f w k 3)]
theorem ofCells_get (f : Nat → Bool) (w k : Nat) {j : Nat} (h : j < 4) : (ofCells f w k)[j]? = some (pU (ofVal f w k j)) := by
  match j, h with
  | 0, _ => rfl
  | 1, _ => rfl
  | 2, _ => rfl
  | 3, _ => rfl
  | n + 4, h => omega
theorem ofVal_ne (f : Nat → Bool) {w k k' j : Nat} (h : j ≠ w) : ofVal f w k' j = ofVal f w k j := by
  unfold ofVal
  split
  · rfl
  · simp
theorem ofCells_set (f : Nat → Bool) {w k : Nat} (h : w < 4) {x : Int} (hx : x = ofVal f w (k + 1) w) : lspl (ofCells f w k) w [pU x] = ofCells f w (k + 1) := by
  subst hx
  match w, h with
  | 0, _ => simp [ofCells, lspl, ofVal]
  | 1, _ => simp [ofCells, lspl, ofVal]
  | 2, _ => simp [ofCells, lspl, ofVal]
  | 3, _ => simp [ofCells, lspl, ofVal]
  | n + 4, h => omega
theorem ofVal_same (f : Nat → Bool) {w k : Nat} (h : f (64 * w + k) = false) (j : Nat) : ofVal f w (k + 1) j = ofVal f w k j := by
  by_cases e : j = w
  · subst e; simp [ofVal, wordOf, h]
  · exact ofVal_ne f e
theorem ofCells_same (f : Nat → Bool) {w k : Nat} (h : f (64 * w + k) = false) : ofCells f w (k + 1) = ofCells f w k := by
  simp only [ofCells, ofVal_same f h]
theorem ofVal_next (f : Nat → Bool) (w j : Nat) : ofVal f (w + 1) 0 j = ofVal f w 64 j := by
  unfold ofVal
  by_cases h : j < w
  · rw [if_pos (by omega), if_pos h]
  · rw [if_neg h]
    by_cases e : j = w
    · subst e; rw [if_pos (by omega), if_pos rfl]
    · rw [if_neg (by omega), if_neg e]; split <;> rfl
theorem ofCells_next (f : Nat → Bool) (w : Nat) : ofCells f (w + 1) 0 = ofCells f w 64 := by simp only [ofCells, ofVal_next]
theorem ofCells_end (f : Nat → Bool) : ofCells f 4 0 = encC (clsOf f) := by
  simp [ofCells, ofVal, encC, clsOf]
/-- a bit -/
def bitv (k : Nat) : Int := IntKind.wrap .u64 (2 ^ k)
theorem bitv_lt {k : Nat} (h : k < 64) : bitv k = 2 ^ k := by
  have h1 : (2 : Int) ^ k < 2 ^ 64 := by
    have := Nat.pow_lt_pow_right (a := 2) (by decide) h
    have e : ((2 ^ k : Nat) : Int) < ((2 ^ 64 : Nat) : Int) := by exact_mod_cast this
    simpa using e
  have h0 : (0 : Int) ≤ 2 ^ k := by
    have : (0 : Int) ≤ ((2 ^ k : Nat) : Int) := Int.natCast_nonneg _
    simpa using this
  exact wrap_u64 h0 (by have : (2 : Int) ^ 64 = 18446744073709551616 := by decide
                        omega)
theorem bitv_succ (k : Nat) : IntKind.wrap .u64 (bitv k * 2) = bitv (k + 1) := by
  unfold bitv IntKind.wrap
  simp only [IntKind.bits, IntKind.signed, Bool.false_and]
  simp only [Bool.false_eq_true, if_false]
  rw [Int.pow_succ]
  omega
theorem ofVal_add (f : Nat → Bool) {w k : Nat} (hk : k < 64) (h : f (64 * w + k) = true) : IntKind.wrap .u64 (ofVal f w k w + bitv k) = ofVal f w (k + 1) w := by
  have e1 : ofVal f w k w = wordOf (fun i => f (64 * w + i)) k := by simp [ofVal]
  have e2 : ofVal f w (k + 1) w = wordOf (fun i => f (64 * w + i)) (k + 1) := by simp [ofVal]
  have hb := wordOf_bound (fun i => f (64 * w + i)) (k + 1)
  have hs : wordOf (fun i => f (64 * w + i)) (k + 1) = wordOf (fun i => f (64 * w + i)) k + 2 ^ k := by simp [wordOf, h]
  have h1 : (2 : Int) ^ (k + 1) ≤ 2 ^ 64 := by
    have := Nat.pow_le_pow_right (n := 2) (by decide) (show k + 1 ≤ 64 from hk)
    have e : ((2 ^ (k + 1) : Nat) : Int) ≤ ((2 ^ 64 : Nat) : Int) := by exact_mod_cast this
    simpa using e
  have h64 : (2 : Int) ^ 64 = 18446744073709551616 := by decide
  rw [e1, e2, bitv_lt hk, hs]
  rw [hs] at hb
  exact wrap_u64 hb.1 (by omega)

abbrev eB (b : Bool) : List PC := [pB b]
/-- which bytes a row of bytes has, as far as i -/
def rowB (a i : Nat) : List Bool := (List.range 256).map fun j => decide (a ≤ j ∧ j < i)
theorem rowB_len (a i : Nat) : (rowB a i).length = 256 := by simp [rowB]
theorem rowB_set {a i : Nat} (h : a ≤ i) : ((rowB a i).map eB).set i [pB true] = (rowB a (i + 1)).map eB := by
  apply List.ext_getElem?
  intro j
  by_cases hj : j < 256
  · by_cases e : i = j
    · subst e; simp [rowB, hj, h]
    · rw [List.getElem?_set_ne e]
      simp only [rowB, List.map_map, List.getElem?_map, List.getElem?_range hj, Option.map_some, Function.comp]
      congr 3
      have : (a ≤ j ∧ j < i) ↔ (a ≤ j ∧ j < i + 1) := by omega
      simp [this]
  · rw [List.getElem?_eq_none (by simp [rowB]; omega), List.getElem?_eq_none (by simp [rowB]; omega)]
theorem rowB_zero (a : Nat) : List.replicate 256 [pB false] = (rowB a a).map eB := by
  apply List.ext_getElem?
  intro j
  by_cases hj : j < 256
  · simp only [rowB, List.map_map, List.getElem?_map, List.getElem?_range hj, Option.map_some, Function.comp, List.getElem?_replicate, hj, if_true]
    have : ¬ (a ≤ j ∧ j < a) := by omega
    simp [this]
  · rw [List.getElem?_eq_none (by rw [List.length_replicate]; omega), List.getElem?_eq_none (by simp [rowB]; omega)]
theorem rowB_end {a b i : Nat} (h : a ≤ i ∧ (i ≤ b + 1 ∨ i = a)) (h' : b < i) : rowB a i = rowB a (b + 1) := by
  unfold rowB
  apply List.map_congr_left
  intro j _
  have : (a ≤ j ∧ j < i) ↔ (a ≤ j ∧ j < b + 1) := by omega
  simp [this]
/-- the class of a row of bytes -/
def clsRow (a b : Nat) : Cls := clsOf fun i => (rowB a (b + 1))[i]!

abbrev eS (s : ByteArray) : List PC := [pS s]
/-- the last byte of a run -/
def lastOf (a : Cls) : Nat → Nat → Nat
  | 0, l => l
  | n + 1, l => if a.has (l + 1) then lastOf a n (l + 1) else l
theorem lastOf_ge (a : Cls) : ∀ n l, l ≤ lastOf a n l ∧ lastOf a n l ≤ l + n
  | 0, l => by simp [lastOf]
  | n + 1, l => by
    simp only [lastOf]
    split
    · have := lastOf_ge a n (l + 1); omega
    · omega
def piece (c l : Nat) : ByteArray := if c < l then hexS c ++ (⟨#[45]⟩ ++ hexS l) else hexS c
theorem piece_size (c l : Nat) : (piece c l).size ≤ 65 := by
  unfold piece
  have h1 := hexS_size c
  have h2 := hexS_size l
  split
  · rw [ByteArray.size_append, ByteArray.size_append]
    have : (⟨#[45]⟩ : ByteArray).size = 1 := rfl
    omega
  · omega
/-- the runs of a class from a byte on -/
def rowsOf (a : Cls) : Nat → Nat → List ByteArray
  | 0, _ => []
  | n + 1, c => if c < 256 then (if a.has c then piece c (lastOf a (255 - c) c) :: rowsOf a n (lastOf a (255 - c) c + 1) else rowsOf a n (c + 1)) else []
theorem rowsOf_fuel (a : Cls) : ∀ n m c, 256 - c ≤ n → 256 - c ≤ m → rowsOf a n c = rowsOf a m c
  | 0, 0, _, _, _ => rfl
  | 0, m + 1, c, h, _ => by rw [rowsOf, rowsOf, if_neg (by omega)]
  | n + 1, 0, c, _, h => by rw [rowsOf, rowsOf, if_neg (by omega)]
  | n + 1, m + 1, c, h, h' => by
    rw [rowsOf, rowsOf]
    have := lastOf_ge a (255 - c) c
    by_cases hc : c < 256
    · rw [if_pos hc, if_pos hc, rowsOf_fuel a n m (lastOf a (255 - c) c + 1) (by omega) (by omega), rowsOf_fuel a n m (c + 1) (by omega) (by omega)]
    · rw [if_neg hc, if_neg hc]
def rowsC (a : Cls) (c : Nat) : List ByteArray := rowsOf a 256 c
theorem rowsC_has (a : Cls) {c : Nat} (h : c < 256) (hh : a.has c = true) : rowsC a c = piece c (lastOf a (255 - c) c) :: rowsC a (lastOf a (255 - c) c + 1) := by
  have := lastOf_ge a (255 - c) c
  unfold rowsC
  rw [show (256 : Nat) = 255 + 1 from rfl, rowsOf, if_pos h, if_pos hh, rowsOf_fuel a 255 (255 + 1) _ (by omega) (by omega)]
theorem rowsC_not (a : Cls) {c : Nat} (h : c < 256) (hh : a.has c = false) : rowsC a c = rowsC a (c + 1) := by
  unfold rowsC
  rw [show (256 : Nat) = 255 + 1 from rfl, rowsOf, if_pos h, if_neg (by simp [hh]), rowsOf_fuel a 255 (255 + 1) _ (by omega) (by omega)]
theorem rowsC_end (a : Cls) : rowsC a 256 = [] := by
  unfold rowsC
  rw [show (256 : Nat) = 255 + 1 from rfl, rowsOf, if_neg (by omega)]
def joinB (l : List ByteArray) (sep : ByteArray) : ByteArray := ⟨(Lib.join (l.map (·.data.toList)) sep.data.toList).toArray⟩
/-- the text of a class -/
def clsText (a : Cls) : ByteArray := if a.count 256 = 256 then ⟨#[46]⟩ else ⟨#[60]⟩ ++ joinB (rowsC a 0) ⟨#[44]⟩ ++ ⟨#[62]⟩
theorem join_len (sep : List UInt8) (m : Nat) : ∀ l : List (List UInt8), (∀ x ∈ l, x.length ≤ m) → (Lib.join l sep).length ≤ l.length * (m + sep.length)
  | [], _ => by simp [Lib.join, List.intercalate]
  | [x], h => by
    have := h x (by simp)
    simp [Lib.join, List.intercalate]; omega
  | x :: y :: l, h => by
    have h1 := h x (by simp)
    have h2 := join_len sep m (y :: l) (fun z hz => h z (List.mem_cons_of_mem _ hz))
    have e : (Lib.join (x :: y :: l) sep).length = x.length + sep.length + (Lib.join (y :: l) sep).length := by
      simp [Lib.join, List.intercalate]; omega
    rw [e, List.length_cons, Nat.add_mul, Nat.one_mul]
    omega

theorem lastOf_has (a : Cls) {l : Nat} (h : l + 1 < 256) (hh : a.has (l + 1) = true) : lastOf a (255 - l) l = lastOf a (255 - (l + 1)) (l + 1) := by
  rw [show 255 - l = (255 - (l + 1)) + 1 from by omega, lastOf, if_pos hh]
theorem lastOf_stop (a : Cls) {l : Nat} (h : 255 ≤ l ∨ a.has (l + 1) = false) : lastOf a (255 - l) l = l := by
  cases hn : 255 - l with
  | zero => rfl
  | succ n =>
    rcases h with h | h
    · omega
    · rw [lastOf, if_neg (by simp [h])]
theorem sz33 (c : Nat) : ((⟨#[45]⟩ : ByteArray) ++ hexS c).size ≤ 33 := by
  rw [ByteArray.size_append]
  have := hexS_size c
  have h : (⟨#[45]⟩ : ByteArray).size = 1 := rfl
  omega
theorem joinB_len {l : List ByteArray} {sep : ByteArray} (hs : sep.size ≤ 1) (hN : l.length ≤ 256) (hZ : ∀ x ∈ l, x.size ≤ 65) : (Lib.join (l.map (·.data.toList)) sep.data.toList).length ≤ 16896 := by
  have := join_len sep.data.toList 65 (l.map (·.data.toList)) (fun x hx => by
    obtain ⟨y, hy, rfl⟩ := List.mem_map.1 hx
    have := hZ y hy
    simpa using this)
  have h2 : sep.data.toList.length ≤ 1 := by simpa using hs
  rw [List.length_map] at this
  have h3 : l.length * (65 + sep.data.toList.length) ≤ 256 * 66 := Nat.mul_le_mul hN (by omega)
  omega

/-- is there a byte at a place, from one to another one? -/
def inR (s : ByteArray) (i : Nat) (lo hi : Int) : Bool := decide (i < s.size) && decide (lo ≤ (byteAt s i : Int)) && decide ((byteAt s i : Int) ≤ hi)
/-- how long a rune is -/
def stepV (c : Int) (tail third fourth a b d e : Bool) : Option Nat :=
  if c < 128 then some 1
  else if (decide (194 ≤ c) && decide (c ≤ 223) && tail) = true then some 2
  else if (decide (c = 224) && a && third) = true then some 3
  else if ((decide (225 ≤ c) && decide (c ≤ 236) || decide (c = 238) || decide (c = 239)) && tail && third) = true then some 3
  else if (decide (c = 237) && b && third) = true then some 3
  else if (decide (c = 240) && d && third && fourth) = true then some 4
  else if (decide (241 ≤ c) && decide (c ≤ 243) && tail && third && fourth) = true then some 4
  else if (decide (c = 244) && e && third && fourth) = true then some 4
  else none
theorem stepV_pos {c : Int} {tail third fourth a b d e : Bool} {k : Nat} (h : stepV c tail third fourth a b d e = some k) : 1 ≤ k := by
  unfold stepV at h
  repeat' split at h
  all_goals first | (simp only [Option.some.injEq] at h; omega) | cases h
def stepU (s : ByteArray) (i : Nat) : Option Nat :=
  stepV (byteAt s i) (inR s (i + 1) 128 191) (inR s (i + 2) 128 191) (inR s (i + 3) 128 191) (inR s (i + 1) 160 191) (inR s (i + 1) 128 159) (inR s (i + 1) 144 191) (inR s (i + 1) 128 143)
def walkU (st : Nat → Option Nat) (size : Nat) : Nat → Nat → Bool
  | 0, _ => true
  | n + 1, i => if i < size then (match st i with | some k => walkU st size n (i + k) | none => false) else true
theorem stepU_pos {s : ByteArray} {i k : Nat} (h : stepU s i = some k) : 1 ≤ k := stepV_pos h
theorem walkU_fuel (st : Nat → Option Nat) (size : Nat) (hst : ∀ i k, st i = some k → 1 ≤ k) : ∀ n m i, size - i ≤ n → size - i ≤ m → walkU st size n i = walkU st size m i
  | 0, 0, _, _, _ => rfl
  | 0, m + 1, i, h, _ => by rw [walkU, walkU, if_neg (by omega)]
  | n + 1, 0, i, _, h => by rw [walkU, walkU, if_neg (by omega)]
  | n + 1, m + 1, i, h, h' => by
    rw [walkU, walkU]
    by_cases hi : i < size
    · rw [if_pos hi, if_pos hi]
      cases hs : st i with
      | none => rfl
      | some k =>
        have := hst i k hs
        exact walkU_fuel st size hst n m (i + k) (by omega) (by omega)
    · rw [if_neg hi, if_neg hi]
theorem walkU_some {st : Nat → Option Nat} {size : Nat} (hst : ∀ i k, st i = some k → 1 ≤ k) {i k : Nat} (hi : i < size) (h : st i = some k) : walkU st size (size + 1) i = walkU st size (size + 1) (i + k) := by
  have := hst i k h
  rw [walkU, if_pos hi, h]
  exact walkU_fuel st size hst _ _ _ (by omega) (by omega)
theorem walkU_none {st : Nat → Option Nat} {size : Nat} {i : Nat} (hi : i < size) (h : st i = none) : walkU st size (size + 1) i = false := by
  rw [walkU, if_pos hi, h]
theorem walkU_end {st : Nat → Option Nat} {size : Nat} {i : Nat} (hi : ¬ i < size) : walkU st size (size + 1) i = true := by
  rw [walkU, if_neg hi]
/-- from a place on -/
def utf8F (s : ByteArray) (i : Nat) : Bool := walkU (stepU s) s.size (s.size + 1) i
def utf8 (s : ByteArray) : Bool := utf8F s 0
theorem utf8F_some {s : ByteArray} {i k : Nat} (hi : i < s.size) (h : stepU s i = some k) : utf8F s i = utf8F s (i + k) := walkU_some (fun _ _ h => stepU_pos h) hi h
theorem utf8F_none {s : ByteArray} {i : Nat} (hi : i < s.size) (h : stepU s i = none) : utf8F s i = false := walkU_none hi h
theorem utf8F_end {s : ByteArray} {i : Nat} (hi : ¬ i < s.size) : utf8F s i = true := walkU_end hi
/-- may a text be a node's? -/
def quoteFree (s : ByteArray) : Nat → Bool
  | 0 => true
  | k + 1 => quoteFree s k && !(byteAt s k == 34)
def textOk (s : ByteArray) : Bool := quoteFree s s.size && (decide (0 < s.size) && utf8 s)

theorem quoteFree_false {s : ByteArray} {k : Nat} (h : byteAt s k = 34) : ∀ n, k < n → quoteFree s n = false
  | 0, hn => by omega
  | n + 1, hn => by
    rw [quoteFree]
    by_cases e : k = n
    · subst e; simp [h]
    · rw [quoteFree_false h n (by omega), Bool.false_and]

/-- the texts' bytes of the first nodes -/
def txtSum (l : List Nd) : Nat → Int
  | 0 => 0
  | k + 1 => txtSum l k + (l[k]!).text.size
def few (l : List Nd) : Bool := decide ((l.length : Int) ≤ 100) && decide (txtSum l (min l.length 200) ≤ 2000)

def valsC (a : Cls) : List Value := [.int .u64 a.c0, .int .u64 a.c1, .int .u64 a.c2, .int .u64 a.c3]
def valsN (n : Nd) : List Value := [.int .i64 n.kind, .int .i64 n.a, .int .i64 n.b, .int .i64 n.lo, .int .i64 n.hi, .int .u64 n.cls.c0, .int .u64 n.cls.c1, .int .u64 n.cls.c2, .int .u64 n.cls.c3, .string n.text]
/-- the same class? -/
def Cls.same (a b : Cls) : Bool := [a.c0 == b.c0, a.c1 == b.c1, a.c2 == b.c2, a.c3 == b.c3].all id
/-- the same node? -/
def Nd.same (a b : Nd) : Bool := [a.kind == b.kind, a.a == b.a, a.b == b.b, a.lo == b.lo, a.hi == b.hi, a.cls.same b.cls, a.text == b.text].all id
theorem Cls.same_iff {a b : Cls} : a.same b = true ↔ a = b := by
  cases a; cases b
  simp [Cls.same]
theorem ba_beq (a b : ByteArray) : (a == b) = true ↔ a = b := by
  have e : (a == b) = (a.data == b.data) := rfl
  rw [e]
  cases a; cases b
  simp
theorem Nd.same_iff {a b : Nd} : a.same b = true ↔ a = b := by
  cases a; cases b
  simp [Nd.same, Cls.same_iff, ba_beq]
/-- P4.1: the first one of a node's (the argument: the node's number and one more) -/
def fstN (l : List Nd) : Nat → Int
  | 0 => -1
  | k + 1 =>
    let n := l[k]!
    if n.kind = 1 then (if n.same { (default : Nd) with kind := n.kind } then k else -1)
    else if n.kind = 2 then (if n.same { (default : Nd) with kind := n.kind, cls := n.cls } then k else -1)
    else if n.kind = 3 then (if textOk n.text then (if n.same { (default : Nd) with kind := n.kind, text := n.text } then k else -1) else -1)
    else if n.kind = 6 ∨ n.kind = 8 ∨ n.kind = 9 then (if n.same { (default : Nd) with kind := n.kind, a := k - 1 } then fstN l k else -1)
    else if n.kind = 7 then (if n.lo < 0 ∨ n.lo > n.hi ∨ n.hi > 255 then -1 else if n.same { (default : Nd) with kind := n.kind, a := k - 1, lo := n.lo, hi := n.hi } then fstN l k else -1)
    else if n.kind = 4 ∨ n.kind = 5 then
      (if fstN l k < 0 then -1 else if n.same { (default : Nd) with kind := n.kind, b := k - 1, a := fstN l k - 1 } then (if _h : (fstN l k).toNat ≤ k then fstN l (fstN l k).toNat else -1) else -1)
    else -1
termination_by j => j
decreasing_by all_goals omega

theorem txtSum_bound {l : List Nd} (hT : ∀ x ∈ l, x.text.size ≤ 140737488355328) : ∀ k, k ≤ l.length → 0 ≤ txtSum l k ∧ txtSum l k ≤ k * 140737488355328
  | 0, _ => by simp [txtSum]
  | k + 1, h => by
    have := txtSum_bound hT k (by omega)
    have h1 := hT l[k]! (by rw [getElem!_pos l k (by omega)]; exact List.getElem_mem _)
    simp only [txtSum]
    omega
theorem txtSum_step {l : List Nd} (hT : ∀ x ∈ l, x.text.size ≤ 140737488355328) {k : Nat} (h : k < l.length) : 0 ≤ txtSum l k ∧ txtSum l k ≤ k * 140737488355328 ∧ (l[k]!).text.size ≤ 140737488355328 :=
  ⟨(txtSum_bound hT k (by omega)).1, (txtSum_bound hT k (by omega)).2, hT _ (by rw [getElem!_pos l k h]; exact List.getElem_mem _)⟩

theorem fstN_le (l : List Nd) : ∀ j, -1 ≤ fstN l j ∧ fstN l j < max j 1 := by
  intro j
  induction j using Nat.strongRecOn with
  | _ j ih =>
    cases j with
    | zero => rw [fstN]; omega
    | succ k =>
      have hk := ih k (by omega)
      rw [fstN]
      simp only
      repeat' split
      all_goals first
        | omega
        | (have h2 := ih (fstN l k).toNat (by omega); omega)

/-- P4.1 -/
def formB (l : List Nd) : Bool := decide (0 < l.length) && (fstN l l.length == 0)

/-- nodes whose parts' numbers are more -/
def mvA (y : Int) (n : Nd) : Nd := if n.kind ≥ 4 then { n with a := n.a + y } else n
def mvB (y : Int) (n : Nd) : Nd := if n.kind = 4 ∨ n.kind = 5 then { n with b := n.b + y } else n
def mv (y : Int) (n : Nd) : Nd := mvB y (mvA y n)
def mvOk (y : Int) (n : Nd) : Prop := (n.kind ≥ 4 → I64 (n.a + y)) ∧ (n.kind = 4 ∨ n.kind = 5 → I64 (n.b + y))
theorem mvA_b (y : Int) (n : Nd) : (mvA y n).b = n.b := by unfold mvA; split <;> rfl
theorem mvA_kind (y : Int) (n : Nd) : (mvA y n).kind = n.kind := by unfold mvA; split <;> rfl
theorem take_succ_map {l : List Nd} {i : Nat} (h : i < l.length) (f : Nd → Nd) : (l.take i).map f ++ [f l[i]!] = (l.take (i + 1)).map f := by
  rw [List.take_succ_eq_append_getElem h, List.map_append, getElem!_pos l i h]
  rfl

theorem mv_zero (n : Nd) : mv 0 n = n := by
  cases n
  simp [mv, mvB, mvA]
theorem mv_zeros (l : List Nd) : l.map (mv 0) = l := by
  rw [show mv 0 = id from funext mv_zero, List.map_id]
theorem mvOk_zero {n : Nd} (h : I64 n.a ∧ I64 n.b) : mvOk 0 n := ⟨fun _ => by rw [Int.add_zero]; exact h.1, fun _ => by rw [Int.add_zero]; exact h.2⟩
/-- P4.2 -/
def wrapL (kind lo hi : Int) (l : List Nd) : List Nd := l ++ [{ (default : Nd) with kind := kind, a := (l.length : Int) - 1, lo := lo, hi := hi }]
def pairL (kind : Int) (l m : List Nd) : List Nd := l ++ m.map (mv l.length) ++ [{ (default : Nd) with kind := kind, a := (l.length : Int) - 1, b := (l.length : Int) + m.length - 1 }]

theorem and_one' (y : Int) : IntKind.wrap .u64 ((BitVec.ofInt 64 y &&& BitVec.ofInt 64 1).toNat : Int) = y % 2 := by
  have h1 : (BitVec.ofInt 64 y &&& BitVec.ofInt 64 1).toNat = (y % 2).toNat := by
    have e : (BitVec.ofInt 64 1) = 1#64 := by decide
    rw [e, BitVec.toNat_and, BitVec.toNat_ofInt]
    have : (1#64).toNat = 1 := rfl
    rw [this, Nat.and_one_is_mod]
    have h64 : (2 ^ 64 : Int) = 18446744073709551616 := by decide
    norm_cast
    omega
  rw [h1]
  have h2 : 0 ≤ y % 2 ∧ y % 2 < 2 := ⟨Int.emod_nonneg _ (by decide), Int.emod_lt_of_pos _ (by decide)⟩
  have h3 : (((y % 2).toNat : Nat) : Int) = y % 2 := Int.toNat_of_nonneg h2.1
  rw [h3]
  unfold IntKind.wrap
  simp [IntKind.bits, IntKind.signed]
  omega

theorem and_one (y : Int) : IntKind.wrap .u64 ((BitVec.ofInt (IntKind.bits .u64) y &&& BitVec.ofInt (IntKind.bits .u64) 1).toNat : Int) = y % 2 := and_one' y

end Go.Sc
