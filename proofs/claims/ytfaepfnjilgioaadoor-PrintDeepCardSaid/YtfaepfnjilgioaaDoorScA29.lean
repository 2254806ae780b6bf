/-
  A law's row: from a contract to the form's last step.
-/
import Derived.Test.YtfaepfnjilgioaaDoorScA28
import Derived.Below
import Derived.ChangeSame
set_option linter.all false
set_option linter.unusedSimpArgs false
set_option linter.unusedVariables false
namespace Go.Abs
open Go Go.RowKit Go.WideShapes Go.ChangeShapes

section
variable {H : Type} {enc : TypeId × Value → H} {P : Program}
theorem post_of_below {f : Func} {s : ChangeSpec} {apart fresh handsOn again : Bool} {W W' : World} {args : Array Value} {v : Value} {ds gs : List (DataW H)} {before pa pv : List MemPlace}
    (hW : DataW.Whole enc P f.params.toList s.vars apart W args.toList ds gs before)
    (hres : ∀ (b : Nat) (sp : Nat → Bool) (hd : Bool), DataW.TrodAll enc P W' b sp hd f.resultTypes.toList (v.resultList f.resultTypes.size) (s.fn H (ds ++ gs)).results [])
    (hargs : ∀ sp : Nat → Bool, (∀ p ∈ before, sp p.block = true) → DataW.TrodAll enc P W' 0 sp true f.params.toList args.toList (s.fn H (ds ++ gs)).args pa)
    (hvars : ∀ sp : Nat → Bool, (∀ p ∈ before, sp p.block = true) → DataW.TrodVars enc P W' sp s.vars (s.fn H (ds ++ gs)).vars pv)
    (hps : before = pa ++ pv) (hb : Below W.heap.size W W')
    (hok : ∀ (j : Nat) (t : TypeId) (r : Value), f.resultTypes[j]? = some t → (v.resultList f.resultTypes.size)[j]? = some r → Value.okWide P W' .any 0 t r) :
    s.post enc P f apart fresh handsOn again W args v W' := by
  have hlt : ∀ p ∈ before, p.block < W.heap.size := fun p hp => hW.lt p hp
  have hold : ∀ p ∈ before, (fun b => decide (b < W.heap.size)) p.block = true := fun p hp => by simpa using hlt p hp
  refine ⟨ds, gs, before, [], pa, pv, hW, hres _ _ _, hargs _ hold, hvars _ hold, World.keptBut_mono (fun p hp => ⟨hp, ?_⟩) (hb.frame (· ∈ before)), fun _ => ?_⟩
  · rw [hps, List.mem_append] at hp
    exact Or.inr hp
  · obtain ⟨_, _, _, _, _, hz, hn⟩ := hW
    refine ⟨hok, _, _, ([] ++ pa) ++ pv, ⟨[] ++ pa, pv, trodAll_append (hargs _ (fun _ _ => rfl)) (hres _ _ _), hvars _ (fun _ _ => rfl), rfl, ?_, ?_⟩, ?_⟩
    · intro b off hp
      have hin : MemPlace.cell b off ∈ before := by rw [hps]; simpa using hp
      rw [hb.frozen (hlt _ hin)]
      exact hz b off hin
    · intro ha
      have := hn ha
      rw [hps] at this
      simpa using this
    · intro p hp _
      rw [hps]
      simpa using hp

theorem trodAll_stays (hl : laidOutB P = true) {W W' : World} {sp' : Nat → Bool} : ∀ {ts : List TypeId} {vs : List Value} {ds : List (DataW H)} {ps : List MemPlace}, (ts.all fun t => P.readableRec t && Nat.blt t P.types.size) = true →
    DataW.TrodAll enc P W 0 (fun _ => true) true ts vs ds ps → (∀ x ∈ ps, W.sameAt W' x) → (∀ x ∈ ps, sp' x.block = true) → DataW.TrodAll enc P W' 0 sp' true ts vs ds ps
  | [], [], [], _, _, h, _, _ => h
  | t :: ts, v :: vs, d :: ds, ps, hr, h, hs, hb => by
    obtain ⟨p, q, h1, h2, rfl⟩ := h
    rw [List.all_cons, Bool.and_eq_true, Bool.and_eq_true, Nat.blt_eq] at hr
    exact ⟨p, q, WideElems.Trod_stays hl hr.1.1 hr.1.2 h1 (fun x hx => hs x (List.mem_append_left _ hx)) (fun x hx => hb x (List.mem_append_left _ hx)),
      trodAll_stays hl hr.2 h2 (fun x hx => hs x (List.mem_append_right _ hx)) (fun x hx => hb x (List.mem_append_right _ hx)), rfl⟩
  | [], _ :: _, _, _, _, h, _, _ => by simp [DataW.TrodAll] at h
  | [], [], _ :: _, _, _, h, _, _ => by simp [DataW.TrodAll] at h
  | _ :: _, [], _, _, _, h, _, _ => by simp [DataW.TrodAll] at h
  | _ :: _, _ :: _, [], _, _, h, _, _ => by simp [DataW.TrodAll] at h

/-- a law's end -/
theorem law_post {f : Func} {s : ChangeSpec} {apart : Bool} {W W' : World} {args : Array Value} {ds gs : List (DataW H)} {before : List MemPlace} {rt : TypeId}
    (hl : laidOutB P = true) (hr : (f.params.toList.all fun t => P.readableRec t && Nat.blt t P.types.size) = true) (hrt : f.resultTypes = #[rt]) (hub : P.underlying rt = some .bool) (hvars : s.vars = [])
    (hW : DataW.Whole enc P f.params.toList s.vars apart W args.toList ds gs before) (hfn : s.fn H ds = { results := [.lit (.bool true)], args := ds }) (hb : Below W.heap.size W W') :
    s.post enc P f apart true false false W args (.bool true) W' := by
  have hW0 := hW
  have hlt : ∀ p ∈ before, p.block < W.heap.size := fun p hp => hW.lt p hp
  obtain ⟨p, q, hA, hV, rfl, hfz, hnd⟩ := hW
  rw [hvars] at hV
  obtain ⟨rfl, rfl⟩ := trodVars_none hV
  rw [List.append_nil] at hlt
  refine post_of_below (pa := p) (pv := []) hW0 (fun b sp hd => ?_) (fun sp hsp => ?_) (fun sp _ => ?_) rfl hb (fun j t r ht hr' => ?_)
  · rw [List.append_nil, hfn, hrt]
    exact trodAll_mk1 (shut_bool hub _)
  · rw [List.append_nil, hfn]
    exact trodAll_stays hl hr hA (fun x hx => hb.same (hlt x hx)) (fun x hx => hsp x (by simpa using hx))
  · rw [List.append_nil, hfn, hvars]
    exact rfl
  · rw [hrt] at ht hr'
    match j with
    | 0 =>
      simp at ht
      subst ht
      have : r = .bool true := by simpa [Value.resultList] using hr'.symm
      subst this
      exact okWide_bool_mk hub _
    | j + 1 => simp at ht
end

/-! ### objects that stay -/
def allFixed : BL → Bool
  | [] => true
  | (_, some (.glob _ _ _)) :: l => allFixed l
  | (_, some (.gmap _ _ _)) :: l => allFixed l
  | _ => false
theorem allFixed_mem : ∀ {B : BL}, allFixed B = true → ∀ κ o, B.fn κ = some o → o.fixed = true
  | [], _, κ, o, h => (noB h).elim
  | (κ₀, some (.glob _ _ _)) :: l, h, κ, o, ho => by
    simp only [BL.fn, look] at ho
    split at ho
    · simp at ho; subst ho; rfl
    · exact allFixed_mem (B := l) h κ o ho
  | (κ₀, some (.gmap _ _ _)) :: l, h, κ, o, ho => by
    simp only [BL.fn, look] at ho
    split at ho
    · simp at ho; subst ho; rfl
    · exact allFixed_mem (B := l) h κ o ho
theorem fixed_block {G G' : Frz} {ν : Pl} {w w' : World} {κ : Key} {o : AO} (h : o.fixed = true) (h1 : SatO G ν w κ o) (h2 : SatO G' ν w' κ o) : w'.heap[(ν κ).1]? = w.heap[(ν κ).1]? := by
  cases o <;> simp [AO.fixed] at h
  · exact h2.2.1.trans h1.2.1.symm
  · exact h2.2.1.trans h1.2.1.symm

/-- a contract that writes nothing, told plainly -/
theorem Con.calls {P : Program} {f : FuncId} {args : List SV} {B : BL} {b : Bool} (h : Con P f args B [.one (.p (.v (.bool b)))] B []) (hfx : allFixed B = true) {W : World} {ν : Pl} {vs : List Value} {G : Frz} (hS : Sat G W)
    (ha : All2 (RepS G ν) args vs) (hB : SatB G ν W B.fn) : Calls P f vs.toArray W fun e W' => e = .returned (.bool b) ∧ Below W.heap.size W W' := by
  refine Calls.mono (h.2 G ν W vs hS ha hB) ?_
  rintro e w' ⟨v, rfl, G', ν', hv, _, hB', hk, hν, _⟩
  have hνe : ν' = ν := funext fun κ => hν κ (by simp)
  subst hνe
  have e := rep_v (v := .bool b) hv
  refine ⟨by rw [e], hk.toBelow fun r _ ⟨κ, o, ho, _, hr⟩ => ?_⟩
  subst hr
  exact fixed_block (allFixed_mem hfx κ o ho) (hB.obj κ o ho) (hB'.obj κ o ho)

theorem SatB.fixed {G : Frz} {ν : Pl} {w : World} {B : BL} (hfx : allFixed B = true) (hobj : ∀ κ o, B.fn κ = some o → SatO G ν w κ o) (hap : ∀ κ κ' o o', B.fn κ = some o → B.fn κ' = some o' → κ ≠ κ' → (ν κ).1 ≠ (ν κ').1) : SatB G ν w B.fn where
  obj := hobj
  free κ o ho h := by rw [allFixed_mem hfx κ o ho] at h; cases h
  lt κ o ho _ := by
    have h1 := hobj κ o ho
    have h2 := allFixed_mem hfx κ o ho
    have : ∃ q, w.heap[(ν κ).1]? = some q := by
      cases o <;> simp [AO.fixed] at h2
      · exact ⟨_, h1.2.1⟩
      · exact ⟨_, h1.2.1⟩
    obtain ⟨q, hq⟩ := this
    exact (Array.getElem?_eq_some_iff.1 hq).1
  apart κ κ' o o' h h' hne _ _ := hap κ κ' o o' h h' hne

/-! ### package variables that are laid -/
theorem mem_insert {H : Type} {x y : Lit × DataW H} : ∀ {l : List (Lit × DataW H)}, y ∈ DataW.insert x l ↔ y = x ∨ y ∈ l
  | [] => by simp [DataW.insert]
  | z :: l => by
    rw [DataW.insert]
    split
    · simp
    · simp only [List.mem_cons, mem_insert (l := l)]
      constructor
      · rintro (h | h | h) <;> simp [h]
      · rintro (h | h | h) <;> simp [h]
theorem mem_sorted {H : Type} {y : Lit × DataW H} : ∀ {l : List (Lit × DataW H)}, y ∈ l.foldr DataW.insert [] ↔ y ∈ l
  | [] => by simp
  | x :: l => by rw [List.foldr_cons, mem_insert, mem_sorted (l := l), List.mem_cons]

/-- a map from integers to integers that reads as told -/
theorem map_ints {H : Type} {enc : TypeId × Value → H} {P : Program} {w : World} {base : Nat} {sp : Nat → Bool} {held : Bool} {t k e : TypeId} {fuel : Nat} {cs : List Value} {es : List (Int × Int)} {p : List MemPlace} {q q' : IntKind} (ht : P.underlying t = some (.map k e)) (hk : P.underlying k = some (.int q)) (he : P.underlying e = some (.int q'))
    (h : DataW.trod enc P w base sp held fuel t cs = some (.map (es.map fun x => (.int q x.1, .lit (.int q' x.2))), p)) :
    ∃ (b : Nat) (ents : Array MapEntry) (clock : Nat), cs = [.map (some b)] ∧ w.heap[b]? = some (.map ents clock) ∧ ∀ (G : Frz) (ν : Pl), RepU G ν (es.map fun x => (.int q x.1, .one (.p (.v (.int q' x.2))))) ents.toList := by
  rcases WideElems.open_map ht h with ⟨_, hx⟩ | ⟨b, ents, clock, n, rfl, rfl, hb, _, F, hx⟩
  · cases hx
  · simp only [Prod.mk.injEq, DataW.map.injEq] at hx
    have hD := hx.1
    have hmem : ∀ y, y ∈ (es.map fun x => ((.int q x.1, .lit (.int q' x.2)) : Lit × DataW H)) ↔ y ∈ ents.toList.map (WideElems.rg P k (WideElems.elemAt enc P w base sp held n e)) := fun y => by rw [hD]; exact mem_sorted
    have hent : ∀ x ∈ ents.toList, ∃ a c : Int, x.key = .int q a ∧ x.val = .int q' c ∧ WideElems.rg P k (WideElems.elemAt enc P w base sp held n e) x = (.int q a, .lit (.int q' c)) := by
      intro x hx
      obtain ⟨y, hy⟩ := F.reads x hx
      have h1 := WideElems.rd_key hy
      obtain ⟨z, h2, h3⟩ := WideElems.rd_val hy
      obtain ⟨c, hc, rfl, _⟩ := WideElems.elemAt_int he h2
      rw [keyOf_int hk] at h1
      have : ∃ a, x.key = .int q a ∧ y.1 = .int q a := by
        unfold mapKey at h1
        rw [hk] at h1
        cases hkx : x.key <;> rw [hkx] at h1 <;> simp at h1
        obtain ⟨⟨rfl, _⟩, h1⟩ := h1
        exact ⟨_, rfl, h1.symm⟩
      obtain ⟨a, ha, hy1⟩ := this
      refine ⟨a, c, ha, hc, ?_⟩
      rw [WideElems.rg_of hy]
      obtain ⟨y1, y2⟩ := y
      simp only at hy1 h3
      rw [hy1, h3]
    refine ⟨b, ents, clock, rfl, hb, fun G ν => ⟨fun x hx => ?_, fun p hp => ?_⟩⟩
    · obtain ⟨a, c, h1, h2, h3⟩ := hent x hx
      have := (hmem _).2 (List.mem_map.2 ⟨x, hx, h3⟩)
      obtain ⟨y, hy, e⟩ := List.mem_map.1 this
      simp only [Prod.mk.injEq, Lit.int.injEq, DataW.lit.injEq, true_and] at e
      refine ⟨_, List.mem_map.2 ⟨y, hy, rfl⟩, by rw [h1, e.1], ?_⟩
      rw [h2, ← e.2]
      exact .v _ rfl
    · obtain ⟨y, hy, rfl⟩ := List.mem_map.1 hp
      obtain ⟨x, hx, e⟩ := List.mem_map.1 ((hmem _).1 (List.mem_map.2 ⟨y, hy, rfl⟩))
      obtain ⟨a, c, h1, h2, h3⟩ := hent x hx
      rw [h3] at e
      simp only [Prod.mk.injEq, Lit.int.injEq, DataW.lit.injEq, true_and] at e
      refine ⟨x, hx, by rw [h1, e.1], ?_⟩
      rw [h2, e.2]
      exact .v _ rfl
end Go.Abs
