/- Abstract values and contracts of calls of the program: a part of the logic in which the claim is proved; it states nothing of the program by itself. -/
import Derived.Test.YtineemehkodlmaaDoorT9
import Derived.Great.BuildSlice
import Derived.Laws.MakeOwn
set_option linter.all false
namespace Go.Mc
open Go.RowKit (Below)

theorem foldl_splice (off : Nat) : ∀ (vs : List Value) (k : Nat) (cs : Array Value), off + k + vs.length ≤ cs.size →
    ((vs.zipIdx k).foldl (fun (cs : Array Value) (q : Value × Nat) => cs.setIfInBounds (off + q.2) q.1) cs).toList = cs.toList.take (off + k) ++ (vs ++ cs.toList.drop (off + k + vs.length))
  | [], k, cs, _ => by simp
  | v :: r, k, cs, h => by
    simp only [List.length_cons] at h
    simp only [List.zipIdx_cons, List.foldl_cons]
    rw [foldl_splice off r (k + 1) _ (by simp; omega)]
    have := splice_set cs.toList r v (off + k) (by simp; omega)
    simp only [Array.toList_setIfInBounds, List.length_cons]
    rw [show off + (k + 1) = off + k + 1 by omega, this]

section
variable {E : Prg} {G : Ghost} {H : List Blk} {w : World}

theorem ValN.fit : ∀ {ws as cs}, ValN G ws as cs → ∀ i, i < as.length → (ws.take i).sum + ws.getD i 0 ≤ cs.length
  | _, _, _, .nil, i, h => by simp at h
  | _, _, _, .cons _ e t, 0, _ => by simp; omega
  | _, _, _, .cons _ e t, i + 1, h => by
    have := ValN.fit t i (by simpa using h)
    simp only [List.take_succ_cons, List.sum_cons, List.getD_cons_succ, List.length_append, Array.length_toList]
    omega
theorem fill_okN {ws : List Nat} {place : Nat → Option (Nat × Nat)} {ea : Operand → AV} {ev' : Operand → Value} (hev : ∀ x, Val G (ea x) (ev' x)) : ∀ (l : List (Nat × Operand)) {as bs : List AV} {cs : List Value} {p : Prop},
    ValN G ws as cs → fillN ws as (l.map fun q => (q.1, ea q.2)) = some (p, bs) → p → (∀ i, i < as.length → place i = some ((ws.take i).sum, ws.getD i 0)) →
    ∃ ds, Instr.fill place cs.toArray (l.map fun q => (q.1, ev' q.2)) = some ds ∧ ValN G ws bs ds.toList
  | [], as, bs, cs, p, hn, h, _, _ => by
    simp only [List.map_nil, fillN, Option.some.injEq, Prod.mk.injEq] at h
    obtain ⟨-, rfl⟩ := h
    exact ⟨_, rfl, by simpa using hn⟩
  | (i, x) :: l, as, bs, cs, p, hn, h, hp, hpl => by
    simp only [List.map_cons, fillN] at h
    split at h
    · rename_i p' bs' e
      simp only [Option.some.injEq, Prod.mk.injEq] at h
      obtain ⟨rfl, rfl⟩ := h
      obtain ⟨⟨hi, hst, hw⟩, hp'⟩ := hp
      have hv := hev x
      have hwd := hv.wd hst
      have hset := hn.set hv (hv.ones hst) i hi (by omega)
      have hl := hn.lens.2
      have hset2 := hset.lens.2
      have hfit := hn.fit i hi
      have hsz : (ev' x).cells.size = ws.getD i 0 := by omega
      obtain ⟨ds, h1, h2⟩ := fill_okN hev l hset e hp' (fun j hj => hpl j (by simpa using hj))
      refine ⟨ds, ?_, h2⟩
      rw [← h1]
      simp only [List.map_cons, Instr.fill, hpl i hi]
      rw [if_neg (by
        simp only [List.getD_eq_getElem?_getD] at hfit hsz
        simp; omega)]
      congr 1
      apply Array.ext'
      have := foldl_splice (ws.take i).sum (ev' x).cells.toList 0 cs.toArray (by simp; omega)
      simp only [Nat.add_zero] at this
      rw [← Array.foldl_toList, Array.toList_zipIdx, this]
      simp [hwd, hw]
    · simp at h

theorem fill_okU {sz : Nat} {place : Nat → Option (Nat × Nat)} (hpl : ∀ i, place i = some (i * sz, sz)) {ea : Operand → AV} {ev' : Operand → Value} (hev : ∀ x, Val G (ea x) (ev' x)) : ∀ (l : List (Nat × Operand)) {as bs : List AV} {cs : List Value} {p : Prop},
    ValU G sz as cs → fillU sz as (l.map fun q => (q.1, ea q.2)) = some (p, bs) → p →
    ∃ ds, Instr.fill place cs.toArray (l.map fun q => (q.1, ev' q.2)) = some ds ∧ ValU G sz bs ds.toList
  | [], as, bs, cs, p, hn, h, _ => by
    simp only [List.map_nil, fillU, Option.some.injEq, Prod.mk.injEq] at h
    obtain ⟨-, rfl⟩ := h
    exact ⟨_, rfl, by simpa using hn⟩
  | (i, x) :: l, as, bs, cs, p, hn, h, hp => by
    simp only [List.map_cons, fillU] at h
    split at h
    · rename_i p' bs' e
      simp only [Option.some.injEq, Prod.mk.injEq] at h
      obtain ⟨rfl, rfl⟩ := h
      obtain ⟨⟨hi, hst, hw⟩, hp'⟩ := hp
      have hv := hev x
      have hwd := hv.wd hst
      have hset := hn.set hv ⟨by omega, hv.ones hst⟩ i hi
      have hl := hn.length
      have hfit : i * sz + sz ≤ cs.length := by rw [hl, ← Nat.succ_mul]; exact Nat.mul_le_mul_right _ hi
      obtain ⟨ds, h1, h2⟩ := fill_okU hpl hev l hset e hp'
      refine ⟨ds, ?_, h2⟩
      rw [← h1]
      simp only [List.map_cons, Instr.fill, hpl i]
      rw [if_neg (by simp; omega)]
      congr 1
      apply Array.ext'
      have := foldl_splice (i * sz) (ev' x).cells.toList 0 cs.toArray (by simp; omega)
      simp only [Nat.add_zero] at this
      rw [← Array.foldl_toList, Array.toList_zipIdx, this]
      simp [hwd, hw]
    · simp at h

/-- many copies of one element -/
theorem rep_cells (zc : List Value) (n : Nat) : (List.range (n * zc.length)).map (fun i => zc[i % zc.length]!) = (List.replicate n zc).flatten := by
  induction n with
  | zero => simp
  | succ n ih =>
    rw [Nat.succ_mul, List.range_add, List.map_append, ih, List.replicate_succ', List.flatten_append]
    congr 1
    simp only [List.map_map, List.flatten_cons, List.flatten_nil, List.append_nil]
    apply List.ext_getElem
    · simp
    · intro i h1 h2
      simp only [List.length_map, List.length_range] at h1
      simp [Nat.mod_eq_of_lt h1, h1]
theorem ValU.rep {sz : Nat} {a : AV} {z : Value} (hv : Val G a z) (hz : z.cells.size = sz) (h1 : Ones z.cells.toList) : ∀ n, ValU G sz (List.replicate n a) (List.replicate n z.cells.toList).flatten
  | 0 => .nil
  | n + 1 => by
    rw [List.replicate_succ, List.replicate_succ, List.flatten_cons]
    exact .cons hv ⟨hz, h1⟩ (ValU.rep hv hz h1 n)
theorem repA (zc : Array Value) (n sz : Nat) (hz : zc.size = sz) : ((Array.range (n * sz)).map fun i => zc[i % zc.size]!).toList = (List.replicate n zc.toList).flatten := by
  have := rep_cells zc.toList n
  rw [← this]
  simp only [Array.toList_map, Array.toList_range, Array.length_toList, hz]
  apply List.map_congr_left
  intro i _
  simp [getElem!_def]

theorem run_zeroValue' {P : Program} {w : World} {t : TypeId} {z : Value} (h : (P.info? t).map (·.zero) = some (some z)) : (zeroValue t).run P w = .ok z w := by
  obtain ⟨i, hi, hz⟩ := Option.map_eq_some_iff.1 h
  simp [zeroValue, typeInfo, hi, hz]

theorem lays_get : ∀ (ws : List Nat) (o i : Nat), i < ws.length → (lays o ws)[i]? = some (o + (ws.take i).sum, ws.getD i 0)
  | w :: r, o, 0, _ => by simp [lays]
  | w :: r, o, i + 1, h => by
    simp only [lays, List.getElem?_cons_succ]
    rw [lays_get r (o + w) i (by simpa using h)]
    simp [Nat.add_assoc]

theorem lopBuild_ok {t : TypeId} {parts : Array (Nat × Operand)} {ea : Operand → AV} {ev' : Operand → Value} (hev : ∀ x, Val G (ea x) (ev' x)) {p : Prop} {r : AV}
    (h : lopBuild E t (parts.toList.map fun q => (q.1, ea q.2)) = some (p, r)) (hp : p) : ∃ v, (Instr.build t (parts.map fun (i, x) => (i, ev' x))).run E.P w = .ok v w ∧ Val G r v := by
  unfold lopBuild at h
  split at h
  · rename_i ws as hz
    split at h
    · rename_i p' bs e
      simp only [Option.some.injEq, Prod.mk.injEq] at h
      obtain ⟨rfl, rfl⟩ := h
      obtain ⟨-, -, ⟨z, hz1, hz2⟩, fs, hu, hlay⟩ := E.zok _ _ hz
      have hv := hz2 G
      cases hv with
      | node hn =>
        rename_i cs
        have hl := hn.lens.1
        obtain ⟨ds, h1, h2⟩ := fill_okN (place := ((lays 0 ws).toArray[·]?)) hev parts.toList hn e hp (fun i hi => by
          have := lays_get ws 0 i (by omega)
          simpa using this)
        refine ⟨.agg ds, ?_, by simpa using Val.node h2⟩
        obtain ⟨it, hi, hzz⟩ := Option.map_eq_some_iff.1 hz1
        refine run_build w t _ ds ?_
        simp only [Program.built, hi, hu, hzz, hlay]
        simpa [agg_cells] using h1
    · simp at h
  · rename_i sz as hz
    split at h
    · rename_i p' bs e
      simp only [Option.some.injEq, Prod.mk.injEq] at h
      obtain ⟨rfl, rfl⟩ := h
      obtain ⟨-, -, ⟨z, hz1, hz2⟩, el, hu, hes⟩ := E.zok _ _ hz
      have hv := hz2 G
      cases hv with
      | arr hn =>
        rename_i cs
        obtain ⟨ds, h1, h2⟩ := fill_okU (place := fun i => some (i * sz, sz)) (fun _ => rfl) hev parts.toList hn e hp
        refine ⟨.agg ds, ?_, by simpa using Val.arr h2⟩
        obtain ⟨it, hi, hzz⟩ := Option.map_eq_some_iff.1 hz1
        obtain ⟨ie, hie, rfl⟩ := tsz_some hes
        refine run_build w t _ ds ?_
        simp only [Program.built, hi, hu, hzz, hie]
        simpa [agg_cells] using h1
    · simp at h
  · simp at h

/-- a slice literal -/
def sopSlice (E : Prg) (H : List Blk) (t : TypeId) (len : Nat) (parts : List (Nat × AV)) : Option (Prop × List Blk × AV) :=
  match ixk E.P t with
  | some (.slice e sz) => match E.zv e with
    | some z => match fillU sz (List.replicate len z) parts with
      | some (p, bs) => some (p ∧ len * sz ≤ 16777216 ∧ 0 < sz, H, .fresh (.sl sz bs true))
      | none => none
    | none => none
  | _ => none

theorem sopSlice_ok (hs : St E.gl G H w) {t : TypeId} {len : Nat} {parts : Array (Nat × Operand)} {ea : Operand → AV} {ev' : Operand → Value} (hev : ∀ x, Val G (ea x) (ev' x)) {p : Prop} {r : AV} {H' : List Blk}
    (h : sopSlice E H t len (parts.toList.map fun q => (q.1, ea q.2)) = some (p, H', r)) (hp : p) :
    ∃ v w' G', (Instr.buildSlice t len (parts.map fun (i, x) => (i, ev' x))).run E.P w = .ok v w' ∧ Ext H.length G w G' w' ∧ St E.gl G' H' w' ∧ Val G' r v ∧ H.length ≤ H'.length := by
  unfold sopSlice at h
  split at h
  · rename_i e sz hix
    obtain ⟨hu, hsz⟩ := ixk_slice hix
    split at h
    · rename_i za hz
      split at h
      · rename_i p' bs ef
        simp only [Option.some.injEq, Prod.mk.injEq] at h
        obtain ⟨rfl, rfl, rfl⟩ := h
        obtain ⟨hp, hsmall, hsz0⟩ := hp
        obtain ⟨hfit, -, ⟨z, hz1, hz2⟩, -⟩ := E.zok _ _ hz
        have hzs : z.cells.size = sz := by
          have h1 := (hz2 G).wd hfit.stor
          have h2 := hfit.size
          rw [hsz] at h2; simp only [Option.some.injEq] at h2; omega
        have hu0 := ValU.rep (hz2 G) hzs ((hz2 G).ones hfit.stor) len
        obtain ⟨ie, hie, rfl⟩ := tsz_some hsz
        obtain ⟨ie', hi, hzz⟩ := Option.map_eq_some_iff.1 hz1
        rw [hie] at hi; cases hi
        by_cases h0 : len * ie.size = 0
        · have hl0 : len = 0 := by
            rcases Nat.mul_eq_zero.1 h0 with h | h
            · exact h
            · omega
          subst hl0
          simp only [List.replicate_zero, List.flatten_nil] at hu0 ef
          obtain ⟨ds, h1, h2⟩ := fill_okU (place := fun i => some (i * ie.size, ie.size)) (fun _ => rfl) hev parts.toList hu0 ef hp
          obtain ⟨G', g1, g2, g3⟩ := hs.new_ro ds e
          have hl := h2.length
          have hb : bs.length = 0 := by
            have : ∀ (l : List (Nat × AV)) (as bs : List AV) (p : Prop), fillU ie.size as l = some (p, bs) → bs.length = as.length := by
              intro l
              induction l with
              | nil => intro as bs p h; simp [fillU] at h; rw [h.2]
              | cons q l ih =>
                intro as bs p h
                simp only [fillU] at h
                split at h
                · rename_i e'
                  simp only [Option.some.injEq, Prod.mk.injEq] at h
                  have := ih _ _ _ e'
                  rw [← h.2, this]; simp
                · simp at h
            simpa using this _ _ _ _ ef
          refine ⟨.slice (some ⟨w.heap.size, 0, none⟩) 0 0, _, G', ?_, g2 _, g1, ?_, Nat.le_refl _⟩
          · have hfill : Instr.fill (fun i => some (i * ie.size, ie.size)) #[] (parts.toList.map fun q => (q.1, ev' q.2)) = some ds := by simpa using h1
            have e0 : (Array.range 0).map (fun _ => (default : Value)) = #[] := by simp
            simp only [Instr.buildSlice]
            simp [run_underlying hu, sizeOf, typeInfo, hie, newRow, pure]
            rw [e0, hfill]
            simp
          · have := Val.sl (G := G') (cl := true) (b := w.heap.size) (off := 0) (cap := 0) (h2.mono (g2 H.length).le hs.sup) g3 (by omega) (by omega)
            rw [hb] at this
            exact .fresh this (fun ad n c e => by cases e; have h2 := (g2 H.length).le.base; have h3 := hs.base.size; simp only [h2]; exact h3)
        · have hrep := repA z.cells len ie.size hzs
          obtain ⟨ds, h1, h2⟩ := fill_okU (place := fun i => some (i * ie.size, ie.size)) (fun _ => rfl) hev parts.toList hu0 ef hp
          obtain ⟨G', g1, g2, g3⟩ := hs.new_ro ds e
          have hb : bs.length = len := by
            have : ∀ (l : List (Nat × AV)) (as bs : List AV) (p : Prop), fillU ie.size as l = some (p, bs) → bs.length = as.length := by
              intro l
              induction l with
              | nil => intro as bs p h; simp [fillU] at h; rw [h.2]
              | cons q l ih =>
                intro as bs p h
                simp only [fillU] at h
                split at h
                · rename_i e'
                  simp only [Option.some.injEq, Prod.mk.injEq] at h
                  have := ih _ _ _ e'
                  rw [← h.2, this]; simp
                · simp at h
            simpa using this _ _ _ _ ef
          have hr := run_buildSlice (P := E.P) w t e len (parts.map fun (i, x) => (i, ev' x)) ds ie z hu hie hzz (by omega) h0 (by
            have e1 : (Array.range (len * ie.size)).map (z.cells[· % z.cells.size]!) = (List.replicate len z.cells.toList).flatten.toArray := by
              apply Array.ext'; rw [hrep]
            rw [e1]
            simpa using h1)
          refine ⟨_, _, G', hr, g2 _, g1, ?_, Nat.le_refl _⟩
          have := Val.sl (G := G') (cl := true) (b := w.heap.size) (off := 0) (cap := len) (h2.mono (g2 H.length).le hs.sup) g3 (by omega) (by omega)
          rw [hb] at this
          exact .fresh this (fun ad n c e => by cases e; have h2 := (g2 H.length).le.base; have h3 := hs.base.size; simp only [h2]; exact h3)
      · simp at h
    · simp at h
  · simp at h
end
end Go.Mc
