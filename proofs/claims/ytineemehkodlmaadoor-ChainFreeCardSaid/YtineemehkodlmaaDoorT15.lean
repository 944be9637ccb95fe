/- Abstract values and contracts of calls of the program: a part of the logic in which the claim is proved; it states nothing of the program by itself. -/
import Derived.Test.YtineemehkodlmaaDoorT14
set_option linter.all false
namespace Go.Mc

mutual
/-- the value of an address-free description -/
def litV : AV → Option Value
  | .v x => if x.oneCell' then some x else none
  | .sl _ [] _ => some (.slice none 0 0)
  | .node ws as => (litN ws as).map fun cs => .agg cs.toArray
  | .arr sz as => (litU sz as).map fun cs => .agg cs.toArray
  | _ => none
def litN : List Nat → List AV → Option (List Value)
  | [], [] => some []
  | w :: ws, a :: as => match litV a, litN ws as with
    | some x, some cs => if x.cells.size = w ∧ x.cells.toList.all (·.oneCell') = true then some (x.cells.toList ++ cs) else none
    | _, _ => none
  | _, _ => none
def litU : Nat → List AV → Option (List Value)
  | _, [] => some []
  | sz, a :: as => match litV a, litU sz as with
    | some x, some cs => if x.cells.size = sz ∧ x.cells.toList.all (·.oneCell') = true then some (x.cells.toList ++ cs) else none
    | _, _ => none
end
theorem ones_all {cs : List Value} (h : cs.all (·.oneCell') = true) : Ones cs := fun c hc => by simpa using List.all_eq_true.1 h c hc
mutual
theorem litV_ok (G : Ghost) : ∀ {a x}, litV a = some x → Val G a x
  | .v y, x, h => by
    simp only [litV] at h
    split at h
    · cases h; exact .v ‹_›
    · simp at h
  | .sl _ [] _, x, h => by simp only [litV, Option.some.injEq] at h; subst h; exact .nil
  | .sl _ (_ :: _) _, x, h => by simp [litV] at h
  | .node ws as, x, h => by
    simp only [litV] at h
    obtain ⟨cs, h1, rfl⟩ := Option.map_eq_some_iff.1 h
    exact .node (litN_ok G h1)
  | .arr sz as, x, h => by
    simp only [litV] at h
    obtain ⟨cs, h1, rfl⟩ := Option.map_eq_some_iff.1 h
    exact .arr (litU_ok G h1)
  | .undef, x, h | .sla _ _ _, x, h | .asl _ _ _ _ _, x, h | .ptr _ _ _, x, h | .cptr _, x, h | .clo _ _ _, x, h | .ifc _ _, x, h | .tup _, x, h | .any, x, h | .fresh _, x, h => by simp [litV] at h
theorem litN_ok (G : Ghost) : ∀ {ws as cs}, litN ws as = some cs → ValN G ws as cs
  | [], [], cs, h => by simp only [litN, Option.some.injEq] at h; subst h; exact .nil
  | w :: ws, a :: as, cs, h => by
    simp only [litN] at h
    split at h
    · rename_i x ds e1 e2
      split at h
      · rename_i q
        simp only [Option.some.injEq] at h; subst h
        exact .cons (litV_ok G e1) ⟨q.1, ones_all q.2⟩ (litN_ok G e2)
      · simp at h
    · simp at h
  | [], _ :: _, cs, h | _ :: _, [], cs, h => by simp [litN] at h
theorem litU_ok (G : Ghost) : ∀ {sz as cs}, litU sz as = some cs → ValU G sz as cs
  | _, [], cs, h => by simp only [litU, Option.some.injEq] at h; subst h; exact .nil
  | sz, a :: as, cs, h => by
    simp only [litU] at h
    split at h
    · rename_i x ds e1 e2
      split at h
      · rename_i q
        simp only [Option.some.injEq] at h; subst h
        exact .cons (litV_ok G e1) ⟨q.1, ones_all q.2⟩ (litU_ok G e2)
      · simp at h
    · simp at h
end
theorem zlit {P : Program} {t : TypeId} {a : AV} (h : (P.info? t).map (·.zero) = some (litV a)) (h' : (litV a).isSome = true) : ∃ z, (P.info? t).map (·.zero) = some (some z) ∧ ∀ G, Val G a z := by
  obtain ⟨z, hz⟩ := Option.isSome_iff_exists.1 h'
  exact ⟨z, by rw [h, hz], fun G => litV_ok G hz⟩
theorem zszlit {P : Program} {t : TypeId} {a : AV} {sz : Nat} (h : (P.info? t).map (·.zero) = some (litV a)) (h' : (litV a).map (·.cells.size) = some sz) : ZSz P t sz := by
  obtain ⟨z, hz, h1⟩ := Option.map_eq_some_iff.1 h'
  exact ⟨z, by rw [h, hz], h1⟩

/-! a value said with less -/
def Wk (a b : AV) : Prop := ∀ G x, Val G a x → Val G b x
theorem Wk.refl (a : AV) : Wk a a := fun _ _ h => h
theorem Wk.trans {a b c : AV} (h : Wk a b) (k : Wk b c) : Wk a c := fun G x v => k G x (h G x v)
theorem Wk.any (a : AV) : Wk a .any := fun _ _ _ => .any
theorem Wk.sla {sz k : Nat} {as : List AV} : Wk (.sla sz as k) (.sl sz as false) := fun _ _ h => by cases h; assumption
theorem Wk.sl {sz : Nat} {as : List AV} {cl : Bool} : Wk (.sl sz as cl) (.sl sz as false) := fun _ _ h => by
  cases h with
  | nil => exact .nil
  | sl a b c _ => exact .sl a b c (by simp)
theorem Wk.empty {sz sz' : Nat} {cl : Bool} : Wk (.sl sz [] cl) (.sl sz' [] cl) := fun _ _ h => h.sl_nil
inductive WkL : List AV → List AV → Prop
  | nil : WkL [] []
  | cons {a b as bs} : Wk a b → WkL as bs → WkL (a :: as) (b :: bs)
theorem WkL.refl : ∀ as, WkL as as
  | [] => .nil
  | _ :: as => .cons (.refl _) (WkL.refl as)
theorem WkL.valT {G : Ghost} : ∀ {as bs xs}, WkL as bs → ValT G as xs → ValT G bs xs
  | _, _, _, .nil, .nil => .nil
  | _, _, _, .cons h t, .cons v vs => .cons (h _ _ v) (t.valT vs)
theorem WkL.valN {G : Ghost} : ∀ {ws as bs xs}, WkL as bs → ValN G ws as xs → ValN G ws bs xs
  | _, _, _, _, .nil, .nil => .nil
  | _, _, _, _, .cons h t, .cons v e vs => .cons (h _ _ v) e (t.valN vs)
theorem Wk.node {ws : List Nat} {as bs : List AV} (h : WkL as bs) : Wk (.node ws as) (.node ws bs) := fun _ _ v => by cases v with | node n => exact .node (h.valN n)
theorem Wk.tup {as bs : List AV} (h : WkL as bs) : Wk (.tup as) (.tup bs) := fun _ _ v => by cases v with | tup n => exact .tup (h.valT n)


section
variable {E : Prg} {f : FuncId} {m : Nat} {k : List Item} {H H' : List Blk} {ts ts' : List AV} {Q : List Blk → Res → Prop}

/-- what is known is said with less: values, and the last names are forgotten -/
theorem AM.weaken {n : Nat} (hn : m ≤ n) (hn' : n ≤ H.length) (hw : WkL ts ts') (hl : AV.ltL n ts') (h : AM E f m k (H.take n) ts' Q) : AM E f m k H ts Q := by
  intro hm hfx G w tm hs hv cs
  have hs' := hs.drop hn'
  have hv' := (hw.valT hv).cut (n := n) hl
  obtain ⟨e, w', fr, ⟨G', H', r, q1, q2, q3⟩, hc, hfn, hlv⟩ := h (by simp; omega) hfx _ w tm hs' hv' cs
  exact ⟨e, w', fr, ⟨G', H', r, q1, (Ext.cut hn G w).trans q2, q3⟩, hc, hfn, hlv⟩
theorem AM.wk (hw : WkL ts ts') (h : AM E f m k H ts' Q) : AM E f m k H ts Q := by
  intro hm hfx G w tm hs hv cs
  exact h hm hfx G w tm hs (hw.valT hv) cs

/-- an object is frozen -/
theorem AM.freeze {i : Nat} {a : AV} (hk : H[i]? = some (.obj a)) (h : AM E f m k (H.set i (.froz a)) ts Q) : AM E f m k H ts Q := by
  intro hm hfx G w tm hs hv cs
  obtain ⟨G', h1, h2⟩ := hs.freeze hk
  obtain ⟨e, w', fr, ⟨G2, H2, r, q1, q2, q3⟩, hc, hfn, hlv⟩ := h (by simpa using hm) hfx _ w tm h1 (hv.mono (h2 H.length).le hs.sup) cs
  exact ⟨e, w', fr, ⟨G2, H2, r, q1, (h2 m).trans q2, q3⟩, hc, hfn, hlv⟩

/-- a nil or full slice becomes one that may be appended to -/
theorem AM.token {j sz : Nat} {as : List AV} (ht : ts[j]? = some (.sl sz as true)) (h : AM E f m k (H ++ [.tok sz as.length]) (ts.set j (.sla sz as H.length)) Q) : AM E f m k H ts Q := by
  intro hm hfx G w tm hs hv cs
  have hg := hv.get j
  rw [List.getD_eq_getElem?_getD, ht] at hg
  simp only [Option.getD_some] at hg
  have hlt : j < tm.toList.length := by rw [← hv.length]; exact (List.getElem?_eq_some_iff.1 ht).1
  obtain ⟨G', h1, h2, h3⟩ := hs.tok_shared hg rfl
  have hset := (hv.mono (h2 H.length (Nat.le_refl _)).le hs.sup).set h3 j
  have e : tm.toList.set j (tm.toList.getD j Go.undef) = tm.toList := by
    apply List.ext_getElem?
    intro i'
    rw [List.getElem?_set]
    split
    · rename_i q; subst q; rw [List.getD_eq_getElem?_getD, List.getElem?_eq_getElem hlt]; rfl
    · rfl
  rw [e] at hset
  obtain ⟨e, w', fr, ⟨G2, H2, r, q1, q2, q3⟩, hc, hfn, hlv⟩ := h (by simp; omega) hfx _ w tm h1 hset cs
  exact ⟨e, w', fr, ⟨G2, H2, r, q1, (h2 m hm).trans q2, q3⟩, hc, hfn, hlv⟩
end

/-- the call hands back r and leaves the heap H' (the last names forgotten) -/
def Gives (H' : List Blk) (r : AV) : List Blk → Res → Prop := fun H e => H = H' ∧ e = .ret r
def GivesW (H' : List Blk) (r : AV) : List Blk → Res → Prop := fun H e => ∃ a, e = .ret a ∧ Wk a r ∧ H'.length ≤ H.length ∧ H.take H'.length = H' ∧ r.lt H'.length

theorem Post.tidy {E : Prg} {m : Nat} {G : Ghost} {w : World} {H' : List Blk} {r : AV} {e : Ending} {w' : World} (hm : m ≤ H'.length) (h : Post E m G w (GivesW H' r) e w') : Post E m G w (Gives H' r) e w' := by
  obtain ⟨G', H1, r1, h1, h2, h3, h4, a, rfl, hw, hl, ht, hlt⟩ := h
  cases h4 with
  | ret hv =>
    have hs := h3.drop hl
    rw [ht] at hs
    exact ⟨_, H', .ret r, hm, h2.trans (Ext.cut hm G' w'), hs, .ret ((hw _ _ hv).cut hlt), rfl, rfl⟩
theorem ACalls.tidy {E : Prg} {f : FuncId} {avs : List AV} {H H' : List Blk} {r : AV} (hm : H.length ≤ H'.length) (h : ACalls E f avs H (GivesW H' r)) : ACalls E f avs H (Gives H' r) :=
  ⟨h.able, fun G w vs hs hv => (h.run G w vs hs hv).mono fun _ _ p => p.tidy hm⟩
/-- arguments said with less -/
theorem ACalls.args {E : Prg} {f : FuncId} {avs avs' : List AV} {H : List Blk} {Q : List Blk → Res → Prop} (hw : WkL avs avs') (h : ACalls E f avs' H Q) : ACalls E f avs H Q :=
  ⟨h.able, fun G w vs hs hv => h.run G w vs hs (hw.valT hv)⟩
end Go.Mc
