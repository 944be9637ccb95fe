/- Abstract values and contracts of calls of the program: a part of the logic in which the claim is proved; it states nothing of the program by itself. -/
import Derived.Test.YtineemehkodlmaaDoorS3
set_option linter.all false
namespace Go.Mc
theorem ValN.at {G : Ghost} : ∀ {ws : List Nat} {l : List AV} {cs : List Value}, ValN G ws l cs → ∀ i, i < l.length → ∃ y, Val G (l.getD i .undef) y ∧
    ∀ (G' : Ghost) (b : AV), (∀ a x, Val G a x → Val G' a x) → Val G' b y → ValN G' ws (l.set i b) cs
  | _, _, _, .nil, i, h => by simp at h
  | _, _, _, .cons (x := x) hv hc ht, 0, _ => ⟨x, hv, fun G' b hm hb => .cons hb hc (by
      have key : ∀ {ws l cs}, ValN G ws l cs → ValN G' ws l cs := by
        intro ws l cs h
        induction l generalizing ws cs with
        | nil => cases h; exact .nil
        | cons a l ih => cases h with | cons q1 q2 q3 => exact .cons (hm _ _ q1) q2 (ih q3)
      exact key ht)⟩
  | _, _, _, .cons hv hc ht, i + 1, h => by
    obtain ⟨y, h1, h2⟩ := ValN.at ht i (by simpa using h)
    exact ⟨y, by simpa using h1, fun G' b hm hb => .cons (hm _ _ hv) hc (h2 G' b hm hb)⟩

/-- the elements of a slice that is full, and of a further one, go into a new block that may be written -/
theorem append_obj_ok {E : Prg} {G : Ghost} {H : List Blk} {w : World} (hs : St E.gl G H w) {t t' ty e : TypeId} {sz by_ : Nat} (hix : ixk E.P t = some (.slice e sz)) (hz : ZSz E.P e sz) (hby : tby E.P e = some by_) (hb0 : 0 < by_)
    (hni : noInt E.P t') {ys : List AV} {cl : Bool} {s0 : Nat} {sv xv : Value} (hsv : Val G (.sl s0 [] true) sv) (hxv : Val G (.sl sz ys cl) xv) (hy : ys ≠ []) (hfit : ys.length * by_ ≤ 140737488355328) :
    ∃ v w' G', (Builtin.append_ #[t, t'] ty #[sv, xv]).run E.P w = .ok v w' ∧ Ext H.length G w G' w' ∧ St E.gl G' (H ++ [.obj (.arr sz ys)]) w' ∧ Val G' (.asl H.length [] 0 sz ys.length) v := by
  obtain ⟨hx, hsz⟩ := ixk_slice hix
  obtain ⟨i, hi, rfl⟩ := tsz_some hsz
  obtain ⟨i', hi', rfl⟩ : ∃ i, E.P.info? e = some i ∧ i.bytes = by_ := by simpa [tby, Option.map_eq_some_iff] using hby
  rw [hi] at hi'; cases hi'
  obtain ⟨z, hz, hzs⟩ := hz
  rw [hi] at hz; simp only [Option.map_some, Option.some.injEq] at hz
  obtain ⟨news, hu, hsrc⟩ := hxv.src hs
  have hlen : 0 < ys.length := List.length_pos_iff.2 hy
  have hsv0 : Val G (.sl i.size [] true) sv := hsv.sl_nil
  obtain ⟨base, rfl⟩ : ∃ base, sv = .slice base 0 0 := by
    cases hsv0 with
    | nil => exact ⟨none, rfl⟩
    | sl _ _ _ hc => have := hc rfl; subst this; exact ⟨_, rfl⟩
  obtain ⟨olds, ho, hos⟩ := hsv0.src hs
  cases ho
  obtain ⟨c, rest, hc, hrest, hrun⟩ := run_append_grow_src (ty := ty) (n := 0) (cap := 0) hx hi hz hni hos.cells' hsrc (by omega) hb0 (by rw [Nat.zero_add]; exact hfit)
  have hs1 := hs.drew.alloc (.cells ([] ++ news ++ rest).toArray e)
  have hid := hs.drew.idle_new (.cells ([] ++ news ++ rest).toArray e)
  have hh : Holds (w.drew.alloc (.cells ([] ++ news ++ rest).toArray e)) w.drew.heap.size ((Value.agg news.toArray).cells.toList ++ rest) := by
    have h0 := Holds.alloc w.drew ([] ++ news ++ rest).toArray e
    exact h0
  have hs2 := hs1.adoptR (rest := rest) hid (.arr hu) (by simpa [agg_cells] using hu.ones) hh
  have e0 : w.drew.heap.size = w.heap.size := rfl
  refine ⟨_, _, _, hrun, ⟨G.addObj_le _ _, by simp, fun b hb => ⟨by rw [heap_alloc_lt _ _ (by simpa using hb.lt)]; rfl, fun k e => ?_, hb.mem, hb.ge, by have := hb.lt; simp; omega⟩⟩, hs2, ?_⟩
  · simp only [Ghost.addObj] at e
    split at e
    · cases e; exact absurd hb.lt (by rw [e0]; omega)
    · exact hb.ow _ e
  · simpa using Val.asl (p := []) (off := 0) (sz := i.size) (len := ys.length) (cap := c) (k := H.length) (by simp [Ghost.addObj]) (by omega)

/-- an object gets a new name, behind a token for one of its parts -/
theorem St.objTok {gl : Nat → Option AV} {G : Ghost} {H : List Blk} {w : World} (h : St gl G H w) {k i sz : Nat} {ws : List Nat} {l vs : List AV} (hk : H[k]? = some (.obj (.node ws l))) (hi : l[i]? = some (.sl sz vs true)) :
    ∃ G', St gl G' (H.set k .dead ++ [.tok sz vs.length, .obj (.node ws (l.set i (.sla sz vs H.length)))]) w ∧ (∀ n, n ≤ H.length → Ext n G w G' w) ∧
      ∀ (p : List Nat) (off : Nat) (y : Value), Val G (.ptr k p off) y → Val G' (.ptr (H.length + 1) p off) y := by
  have hkl := (List.getElem?_eq_some_iff.1 hk).1
  have hB := h.blk k _ hk
  cases hB with
  | obj hv h1 hb hw hh hm =>
    cases hv with
    | node hn =>
      rename_i b rest cs
      obtain ⟨y, hy, hset⟩ := hn.at i (List.getElem?_eq_some_iff.1 hi).1
      rw [List.getD_eq_getElem?_getD, hi] at hy
      simp only [Option.getD_some] at hy
      obtain ⟨G1, s1, e1, t1, eo, em, eb⟩ := h.tok_shared2 hy rfl
      have hle := (e1 H.length (Nat.le_refl _)).le
      have hn1 := hset G1 _ (fun a x q => Val.mono hle h.sup q) t1
      let G2 : Ghost := { G1 with bl := fun j => if j = H.length + 1 then some b else G1.bl j, ow := fun j => if j = k then none else if j = H.length + 1 then some b else G1.ow j }
      have hbn : ∀ c, G1.bl (H.length + 1) ≠ some c := fun c e => by have := s1.sup.1 _ _ e; simp at this
      have le2 : ∀ n, n ≤ H.length + 1 → G1.Le n G2 := fun n hn' => ⟨rfl, fun _ _ _ e => e, fun j c hj e => by
        have : ¬ (j = H.length + 1) := by omega
        simp [G2, this, e], fun _ _ _ _ e => e⟩
      have hob := h.own k b hw
      refine ⟨G2, ⟨s1.base, s1.mem, ⟨?_, ?_⟩, ?_, ?_, ?_, ?_, ?_⟩, fun n hn' => (e1 n hn').trans ⟨le2 n (by omega), Nat.le_refl _, fun c hc => ⟨rfl, fun j e => ?_, hc.mem, hc.ge, hc.lt⟩⟩, ?_⟩
      · intro j c e
        simp only [G2] at e
        split at e
        · simp; omega
        · have := s1.sup.1 _ _ e; simp at this ⊢; omega
      · intro j n s e
        have := s1.sup.2 _ _ _ e
        simp at this ⊢; omega
      · intro j c e
        simp only [G2] at e
        split at e
        · simp at e
        · split at e
          · cases e; exact ⟨by simp; omega, by rw [show G2.base = G.base from hle.base]; exact hob.2⟩
          · have := s1.own _ _ e; exact ⟨by have := this.1; simp at this ⊢; omega, this.2⟩
      · intro j j' c e e'
        simp only [G2] at e e'
        have hwk : G1.ow k = some b := by rw [eo]; exact hw
        split at e
        · simp at e
        · split at e' <;> first | (simp at e'; done) | skip
          rename_i q1 q2
          split at e <;> split at e'
          · omega
          · cases e; exact absurd (s1.inj _ _ _ e' hwk) q2
          · cases e'; exact absurd (s1.inj _ _ _ e hwk) q1
          · exact s1.inj _ _ _ e e'
      · intro j B e
        rw [List.getElem?_append] at e
        simp only [List.length_set] at e
        split at e
        · rename_i hj
          rw [List.getElem?_set] at e
          split at e
          · rename_i q; subst q
            cases e; exact .dead
          · rename_i q
            have e' : (H ++ [.tok sz vs.length])[j]? = some B := by rw [List.getElem?_append_left hj]; exact e
            have hj2 : j ≠ H.length + 1 := by omega
            refine (s1.blk j B e').keep s1.sup (le2 _ (by simp)) (fun _ => rfl) fun c hc => ⟨?_, rfl, fun _ => rfl⟩
            simp [G2, Ne.symm q, hj2, hc]
        · rename_i hj
          have hj3 : j = H.length ∨ j = H.length + 1 := by
            have := (List.getElem?_eq_some_iff.1 e).1; simp at this; omega
          rcases hj3 with rfl | rfl
          · simp only [Nat.sub_self, List.getElem?_cons_zero, Option.some.injEq] at e
            subst e
            have e' : (H ++ [Blk.tok sz vs.length])[H.length]? = some (.tok sz vs.length) := by simp
            refine (s1.blk _ _ e').keep s1.sup (le2 _ (by simp)) (fun _ => rfl) fun c hc => ⟨?_, rfl, fun _ => rfl⟩
            have : H.length ≠ k := by omega
            simp [G2, this, hc]
          · simp only [Nat.add_sub_cancel_left, List.getElem?_cons_succ, List.getElem?_cons_zero, Option.some.injEq] at e
            subst e
            have hk2 : H.length + 1 ≠ k := by omega
            refine .obj (rest := rest) (.node (ValN.mono (le2 (H.length + 1) (Nat.le_refl _)) (by simpa using s1.sup) hn1)) h1 (by simp [G2]) (by simp [G2, hk2]) hh fun o => by simp [G2, em, hm]
      · intro j B e
        rw [List.getElem?_append] at e
        simp only [List.length_set] at e
        split at e
        · rename_i hj
          rw [List.getElem?_set] at e
          split at e
          · rename_i q; subst q
            cases e; simp [Blk.lt]
          · exact h.lt j B e
        · rename_i hj
          have hj3 : j = H.length ∨ j = H.length + 1 := by
            have := (List.getElem?_eq_some_iff.1 e).1; simp at this; omega
          rcases hj3 with rfl | rfl
          · simp only [Nat.sub_self, List.getElem?_cons_zero, Option.some.injEq] at e
            subst e; simp [Blk.lt]
          · simp only [Nat.add_sub_cancel_left, List.getElem?_cons_succ, List.getElem?_cons_zero, Option.some.injEq] at e
            subst e
            have := ValN.lt s1.sup hn1
            simpa [Blk.lt, AV.lt] using this
      · intro g a e
        obtain ⟨h0, y', hy', hm'⟩ := s1.gl g a e
        exact ⟨h0, y', hy'.mono (le2 _ (by simp)) s1.sup, hm'⟩
      · simp only [G2] at e
        split at e
        · simp at e
        · split at e
          · cases e
            exact hc.ow k (by rw [eo]; exact hw)
          · exact hc.ow _ e
      · intro p off y' hp
        cases hp with
        | ptr hq =>
          rw [hb] at hq; cases hq
          exact .ptr (by simp [G2])

section
variable {E : Prg} {f : FuncId} {m : Nat} {k : List Item} {H : List Blk} {ts : List AV} {Q : List Blk → Res → Prop}
/-- a part of a struct that is a full slice gets its token -/
theorem AM.tokenN {j i sz : Nat} {ws : List Nat} {l vs : List AV} (ht : ts[j]? = some (.node ws l)) (hi : l[i]? = some (.sl sz vs true)) (h : AM E f m k (H ++ [.tok sz vs.length]) (ts.set j (.node ws (l.set i (.sla sz vs H.length)))) Q) : AM E f m k H ts Q := by
  intro hm hfx G w tm hs hv cs
  have hg := hv.get j
  rw [List.getD_eq_getElem?_getD, ht] at hg
  simp only [Option.getD_some] at hg
  have hlt : j < tm.toList.length := by rw [← hv.length]; exact (List.getElem?_eq_some_iff.1 ht).1
  have hset : ∃ G', St E.gl G' (H ++ [.tok sz vs.length]) w ∧ (∀ n, n ≤ H.length → Ext n G w G' w) ∧ Val G' (.node ws (l.set i (.sla sz vs H.length))) (tm.toList.getD j Go.undef) := by
    generalize tm.toList.getD j Go.undef = y at hg
    cases hg with
    | node hn =>
      obtain ⟨x, h1, h2⟩ := hn.at i (List.getElem?_eq_some_iff.1 hi).1
      rw [List.getD_eq_getElem?_getD, hi] at h1
      simp only [Option.getD_some] at h1
      obtain ⟨G', q1, q2, q3⟩ := hs.tok_shared h1 rfl
      exact ⟨G', q1, q2, .node (h2 G' _ (fun a x hv => hv.mono (q2 H.length (Nat.le_refl _)).le hs.sup) q3)⟩
  obtain ⟨G', h1, h2, h3⟩ := hset
  have hset := (hv.mono (h2 H.length (Nat.le_refl _)).le hs.sup).set h3 j
  have e : tm.toList.set j (tm.toList.getD j Go.undef) = tm.toList := by
    apply List.ext_getElem?
    intro i'
    rw [List.getElem?_set]
    split
    · rename_i q; subst q; rw [List.getD_eq_getElem?_getD, List.getElem?_eq_getElem hlt]; rfl
    · rfl
  rw [e] at hset
  obtain ⟨e, w', fr, ⟨G2, H2, r, q1, q2, q3⟩, hc, hfn, hlv⟩ := h (by simp; omega) hfx _ w tm h1 hset cs
  exact ⟨e, w', fr, ⟨G2, H2, r, q1, (h2 m hm).trans q2, q3⟩, hc, hfn, hlv⟩

/-- append to an empty full slice: the new block may be written -/
theorem AM.appObj {ops : Array Oper} {i : Nat} {rest : List Nat} {o : Oper} {t t' e : TypeId} {s x : Operand} {sz by_ s0 : Nat} {ys : List AV} {cl : Bool} (ho : ops[i]? = some o) (hg : gdOf ops ts o.guard = some true)
    (hop : o.op = .call { callee := .builtin .append, args := #[s, x], argTypes := #[t, t'] }) (hs : ev E ts s = .sl s0 [] true) (hx : ev E ts x = .sl sz ys cl)
    (hix : ixk E.P t = some (.slice e sz)) (hz : ZSz E.P e sz) (hby : tby E.P e = some by_) (hb0 : 0 < by_) (hni : noInt E.P t') (hy : ys ≠ []) (hfit : ys.length * by_ ≤ 140737488355328)
    (hk : AM E f m (.inRegion ops rest :: k) (H ++ [.obj (.arr sz ys)]) (putT ts o.dst (.asl H.length [] 0 sz ys.length)) Q) : AM E f m (.inRegion ops (i :: rest) :: k) H ts Q := by
  intro hm hfx G w tm hst hv cs
  have h1 := Val.ev (E := E) hst hv s
  have h2 := Val.ev (E := E) hst hv x
  rw [hs] at h1
  rw [hx] at h2
  obtain ⟨v, w', G', g1, g2, g3, g4⟩ := append_obj_ok (ty := o.type) hst hix hz hby hb0 hni h1 h2 hy hfit
  have hp := ValT.put (hv.mono g2.le hst.sup) g4 o.dst
  obtain ⟨e', w2, fr, hpost, hc, hfn, hl⟩ := hk (by simp; omega) hfx G' w' _ g3 hp.1 cs
  obtain ⟨G2, H2, r2, q1, q2, q3⟩ := hpost
  have hrun : (execOp (Act.eval { tmps := tm, defers := [] }) o).run E.P w = .ok (.value v) w' := by
    obtain ⟨dst, op, ty, pos, after, guard⟩ := o
    simp only at hop g1
    subst hop
    unfold execOp
    simp only [resolve]
    simp [invoke, builtin, g1, pure, Sem.run_bind]
  refine ⟨e', w2, fr, ⟨G2, H2, r2, q1, (g2.down hm).trans q2, q3⟩, .of_steps (.one ?_) hc, hfn, hl⟩
  have hst' := step_op_value (P := E.P) (b := fr0 f) (a := { tmps := tm, defers := [] }) (k := k) (cs := cs) (rest := rest) ho (gd_ok hv hg) (.inl hrun)
  exact hst'.trans (by rw [put_eq])

/-- a slice of a frozen array is one that nobody writes -/
theorem AM.thaw {i j : Nat} {p : List Nat} {off sz len : Nat} {c : AV} {as' : List AV} (ht : ts[j]? = some (.asl i p off sz len)) (hk : H[i]? = some (.froz c)) (hs : sub p c 0 = some (off, .arr sz as')) (hl : as'.length = len)
    (h : AM E f m k H (ts.set j (.sl sz as' false)) Q) : AM E f m k H ts Q := by
  intro hm hfx G w tm hst hv cs
  refine h hm hfx G w tm hst ?_ cs
  have hg := hv.get j
  rw [List.getD_eq_getElem?_getD, ht] at hg
  simp only [Option.getD_some] at hg
  have hlt : j < tm.toList.length := by rw [← hv.length]; exact (List.getElem?_eq_some_iff.1 ht).1
  have : Val G (.sl sz as' false) (tm.toList.getD j Go.undef) := by
    have hB := hst.blk i _ hk
    generalize tm.toList.getD j Go.undef = y at hg
    cases hg with
    | asl hb hcap =>
      cases hB with
      | froz hvc hb' hm' =>
        rw [hb] at hb'; cases hb'
        have := Val.cptr_sub (off := 0) hvc (fun i q => by simpa using hm' i q) hs
        rw [Nat.zero_add] at this
        cases this with
        | cptr hv hm2 =>
          cases hv with
          | arr hu =>
            have := Val.sl (cl := false) hu (fun i q => by simpa [agg_cells] using hm2 i (by simpa [agg_cells] using q)) (Nat.le_trans (Nat.le_of_eq hl) hcap) (by simp)
            rwa [hl] at this
  have hset := hv.set this j
  have e : tm.toList.set j (tm.toList.getD j Go.undef) = tm.toList := by
    apply List.ext_getElem?
    intro i'
    rw [List.getElem?_set]
    split
    · rename_i q; subst q; rw [List.getD_eq_getElem?_getD, List.getElem?_eq_getElem hlt]; rfl
    · rfl
  rwa [e] at hset

/-- what lies behind is forgotten -/
theorem AM.drop {X : List Blk} {H' : List Blk} {ts' : List AV} (hH : H' = H ++ X) (hm : m ≤ H.length) (hl : AV.ltL H.length ts') (hw : WkL ts ts') (h : AM E f m k H ts' Q) : AM E f m k H' ts Q := by
  subst hH
  exact AM.weaken hm (by simp) hw hl (by simpa using h)

/-- an object gets a new name, behind a token for one of its parts; j is the pointer to it -/
theorem AM.objTok {j n i sz : Nat} {p : List Nat} {off : Nat} {ws : List Nat} {l vs : List AV} (ht : ts[j]? = some (.ptr n p off)) (hk : H[n]? = some (.obj (.node ws l))) (hi : l[i]? = some (.sl sz vs true))
    (h : AM E f m k (H.set n .dead ++ [.tok sz vs.length, .obj (.node ws (l.set i (.sla sz vs H.length)))]) (ts.set j (.ptr (H.length + 1) p off)) Q) : AM E f m k H ts Q := by
  intro hm hfx G w tm hs hv cs
  have hg := hv.get j
  rw [List.getD_eq_getElem?_getD, ht] at hg
  simp only [Option.getD_some] at hg
  have hlt : j < tm.toList.length := by rw [← hv.length]; exact (List.getElem?_eq_some_iff.1 ht).1
  obtain ⟨G', h1, h2, h3⟩ := hs.objTok hk hi
  have hset := (hv.mono (h2 H.length (Nat.le_refl _)).le hs.sup).set (h3 _ _ _ hg) j
  have e : tm.toList.set j (tm.toList.getD j Go.undef) = tm.toList := by
    apply List.ext_getElem?
    intro i'
    rw [List.getElem?_set]
    split
    · rename_i q; subst q; rw [List.getD_eq_getElem?_getD, List.getElem?_eq_getElem hlt]; rfl
    · rfl
  rw [e] at hset
  obtain ⟨e, w', fr, ⟨G2, H2, r, q1, q2, q3⟩, hc, hfn, hlv⟩ := h (by simp; omega) hfx _ w tm h1 hset cs
  exact ⟨e, w', fr, ⟨G2, H2, r, q1, (h2 m hm).trans q2, q3⟩, hc, hfn, hlv⟩
end
end Go.Mc
