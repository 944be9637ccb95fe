/- Abstract values and contracts of calls of the program: a part of the logic in which the claim is proved; it states nothing of the program by itself. -/
import Derived.Test.YtineemehkodlmaaDoorT18
set_option linter.all false
namespace Go.Mc
section
variable {E : Prg} {f : FuncId} {m : Nat} {k : List Item} {H H' : List Blk} {ts : List AV} {Q : List Blk → Res → Prop} {ops : Array Oper}

theorem AMF.alloc {F : Frs} {i : Nat} {rest : List Nat} {o : Oper} {t : TypeId} {d : Nat} {z : AV} (ho : ops[i]? = some o) (hg : gdOf ops ts o.guard = some true) (hop : o.op = .alloc t) (hd : o.dst = some d) (hz : E.zv t = some z)
    (hlt : d < ts.length)
    (hk : AMF E f m (.inRegion ops rest :: k) (wF F (some d) (some z)) H (putT ts (some d) .any) Q) : AMF E f m (.inRegion ops (i :: rest) :: k) F H ts Q := by
  intro hm hfx G0 w0 G w tm hext hs hv hF cs
  obtain ⟨hf, -, ⟨zv, hz1, hz2⟩, -⟩ := E.zok _ _ hz
  have hs' := hs.alloc (.cells zv.cells t)
  have hid := hs.idle_new (.cells zv.cells t)
  have hrun : (execOp (Act.eval { tmps := tm, defers := [] }) o).run E.P w = .ok (.value (.pointer (some ⟨w.heap.size, 0, none⟩))) (w.alloc (.cells zv.cells t)) := by
    obtain ⟨dst, op, ty, pos, after, guard⟩ := o
    simp only at hop; subst hop
    simp [execOp, Instr.alloc, run_zeroValue' hz1, newVar, newRow, pure]
  have hp := ValT.put (x := .pointer (some ⟨w.heap.size, 0, none⟩)) hv .any (some d)
  have hltm : d < tm.size := by have := hv.length; simp at this; omega
  have hF' : FrOk w0.heap.size G (w.alloc (.cells zv.cells t)) (wF F (some d) (some z)) (Act.put { tmps := tm, defers := [] } (some d) (.pointer (some ⟨w.heap.size, 0, none⟩))).tmps := by
    have hx := hF.ext (x := .pointer (some ⟨w.heap.size, 0, none⟩)) (Ext.alloc 0 G w (.cells zv.cells t)) (some d)
    have hnew : (Act.put { tmps := tm, defers := [] } (some d) (.pointer (some ⟨w.heap.size, 0, none⟩))).tmps[d]? = some (.pointer (some ⟨w.heap.size, 0, none⟩)) := by simp [Act.put, hltm]
    have hold : ∀ j z', F j = some z' → j ≠ d → ∃ b, (Act.put { tmps := tm, defers := [] } (some d) (.pointer (some ⟨w.heap.size, 0, none⟩))).tmps[j]? = some (.pointer (some ⟨b, 0, none⟩)) ∧ b < w.heap.size := by
      intro j z' e q
      obtain ⟨b, y, h1, -, h2, -⟩ := hF.blk j z' e
      exact ⟨b, by simp [Act.put, Ne.symm q, h1], h2.lt⟩
    refine ⟨fun j z' e => ?_, fun j j' z1 z2 e e' q => ?_⟩
    · simp only [wF, Option.some.injEq] at e
      split at e
      · rename_i q; subst q; cases e
        exact ⟨w.heap.size, zv, hnew, hext.size, hid, hz2, (hz2 G).ones hf.stor, Holds.alloc w zv.cells t⟩
      · rename_i q
        exact hx.blk j z' (by simp [wF, q, e])
    · simp only [wF, Option.some.injEq] at e e'
      split at e <;> split at e'
      · rename_i q1 q2; exact q1.symm.trans q2
      · rename_i q1 q2; subst q1
        obtain ⟨b, h1, h2⟩ := hold j' z2 e' (Ne.symm q2)
        rw [hnew, h1] at q; simp at q; omega
      · rename_i q1 q2; subst q2
        obtain ⟨b, h1, h2⟩ := hold j z1 e (Ne.symm q1)
        rw [hnew, h1] at q; simp at q; omega
      · rename_i q1 q2
        exact hx.inj j j' z1 z2 (by simp [wF, q1, e]) (by simp [wF, q2, e']) q
  obtain ⟨e, w2, fr, hpost, hc, hfn, hl⟩ := hk hm hfx G0 w0 G _ _ (hext.trans (Ext.alloc m G w _)) hs' hp.1 hF' cs
  refine ⟨e, w2, fr, hpost, .of_steps (.one ?_) hc, hfn, hl⟩
  have hst := step_op_value (P := E.P) (b := fr0 f) (a := { tmps := tm, defers := [] }) (k := k) (cs := cs) (rest := rest) ho (gd_ok hv hg) (.inl hrun)
  rw [hd] at hst
  exact hst.trans (by rw [put_eq])

/-- the first store into a new block -/
theorem AMF.store {F : Frs} {i : Nat} {rest : List Nat} {o : Oper} {t : TypeId} {d : Nat} {z : AV} {x : Operand} (ho : ops[i]? = some o) (hg : gdOf ops ts o.guard = some true) (hop : frStore F o.op = some (t, d, z, x)) (hd : o.dst = none)
    (hlt : d < ts.length) (hsx : (ev E ts x).stor = true) (hfit : Fits E.P t (ev E ts x)) (hz : z.stor = true) (hwd : z.wd = (ev E ts x).wd) (hxl : (ev E ts x).lt H.length)
    (hk : AMF E f m (.inRegion ops rest :: k) (wF F (some d) none) (H ++ [.obj (ev E ts x)]) (putT ts (some d) (.ptr H.length [] 0)) Q) : AMF E f m (.inRegion ops (i :: rest) :: k) F H ts Q := by
  intro hm hfx G0 w0 G w tm hext hs hv hF cs
  obtain ⟨hop, hFd⟩ := frStore_some hop
  obtain ⟨b, zx, e1, e0, hi, e3, e4, e5⟩ := hF.blk d z hFd
  have hs1 := hs.adopt hi (e3 G) e4 e5
  have hle1 : G.Le H.length (G.addObj H.length b) := Ghost.addObj_le _ _ _
  have hidle : ∀ c, Idle G w c → c ≠ b → Idle (G.addObj H.length b) w c := by
    intro c hc hne
    refine ⟨fun k e => ?_, hc.mem, hc.ge, hc.lt⟩
    simp only [Ghost.addObj] at e
    split at e
    · cases e; exact hne rfl
    · exact hc.ow _ e
  have hxv := Val.ev (E := E) hs hv x
  have hxv1 : Val (G.addObj H.length b) (ev E ts x) (Act.eval { tmps := tm, defers := [] } x) := hxv.mono hle1 hs.sup
  have hptr : Val (G.addObj H.length b) (.ptr H.length [] 0) (.pointer (some ⟨b, 0, none⟩)) := .ptr (by simp [Ghost.addObj])
  have hstore : sopStore E (H ++ [.obj z]) t (.ptr H.length [] 0) (ev E ts x) = some (0 = 0 ∧ Fits E.P t (ev E ts x) ∧ z.stor = true ∧ z.wd = (ev E ts x).wd ∧ (ev E ts x).lt H.length, H ++ [.obj (ev E ts x)], .undef) := by
    simp [sopStore, sub, upd]
  obtain ⟨w', G', h1, h2, h3, -, h5⟩ := sopStore_ok hs1 hstore ⟨rfl, hfit, hz, hwd, hxl⟩ hptr hxv1
  have hval : Act.eval { tmps := tm, defers := [] } (.tmp d) = .pointer (some ⟨b, 0, none⟩) := by simp [Act.eval, e1]
  have hrun : (execOp (Act.eval { tmps := tm, defers := [] }) o).run E.P w = .ok .skip w' := by
    obtain ⟨dst, op, ty, pos, after, guard⟩ := o
    simp only at hop; subst hop
    simp only [execOp, hval, Sem.run_bind, h1]
    rfl
  have hext2 : Ext m G0 w0 G' w' := by
    refine ⟨hext.le.trans ((hle1.down hm).trans (h2.le.down (by simp; omega))), Nat.le_trans hext.size h2.size, fun c hc => ?_⟩
    have hc1 := hext.idle c hc
    have hne : c ≠ b := by have := hc.lt; omega
    have hc2 := h2.idle c (hidle c hc1.2 hne)
    exact ⟨hc2.1.trans hc1.1, hc2.2⟩
  have hvv : ValT G' (putT ts (some d) (.ptr H.length [] 0)) tm.toList := by
    have hset := ((hv.mono hle1 hs.sup).set hptr d).mono h2.le hs1.sup
    have e : tm.toList.set d (.pointer (some ⟨b, 0, none⟩)) = tm.toList := by
      apply List.ext_getElem?
      intro i'
      rw [List.getElem?_set]
      split
      · rename_i q; subst q
        have hlt' : d < tm.toList.length := by rw [← hv.length]; exact hlt
        simp only [hlt', if_true]
        simpa using e1.symm
      · rfl
    rwa [e] at hset
  have hF' : FrOk w0.heap.size G' w' (wF F (some d) none) tm := by
    refine ⟨fun j z' e => ?_, fun j j' z1 z2 e e' q => ?_⟩
    · simp only [wF, Option.some.injEq] at e
      split at e
      · simp at e
      · rename_i q
        obtain ⟨c, y, g1, g0, g2, g3, g4, g5⟩ := hF.blk j z' e
        have hne : c ≠ b := by
          intro hcb; subst hcb
          exact q (hF.inj d j z z' hFd e (by rw [e1, g1]))
        have hc2 := h2.idle c (hidle c g2 hne)
        exact ⟨c, y, g1, g0, hc2.2, g3, g4, g5.of_heap hc2.1⟩
    · simp only [wF, Option.some.injEq] at e e'
      split at e
      · simp at e
      · split at e'
        · simp at e'
        · exact hF.inj j j' z1 z2 e e' q
  obtain ⟨e, w2, fr, hpost, hc, hfn, hl⟩ := hk (by simp; omega) hfx G0 w0 G' w' _ hext2 h3 hvv hF' cs
  refine ⟨e, w2, fr, hpost, .of_steps (.one ?_) hc, hfn, hl⟩
  have hst := step_op_value (P := E.P) (b := fr0 f) (a := { tmps := tm, defers := [] }) (k := k) (cs := cs) (rest := rest) ho (gd_ok hv hg) (.inr ⟨hrun, rfl⟩)
  rw [hd] at hst
  exact hst

/-- one operation of a drawn region -/
theorem AMF.one {K : DSt} {i : Nat} {kd : DK} {pend : List Nat} {rest : List Nat} {D : Chks} {F : Frs} (h : dOne E Q ops K (i, kd, pend) D F H ts) (hK : ∀ D F H ts, K D F H ts → AMF E f m (.inRegion ops rest :: k) F H ts Q) :
    AMF E f m (.inRegion ops (i :: rest) :: k) F H ts Q := by
  unfold dOne at h
  simp only at h
  split at h
  · exact h.elim
  · rename_i o ho
    split at h
    · exact h.elim
    · rename_i g hg
      cases g with
      | false => exact .skip ho hg (hK _ _ _ _ (h.2 rfl))
      | true =>
        have h := h.1 rfl
        cases kd with
        | l =>
          simp only [dAct] at h
          split at h
          · rename_i p H' r e
            obtain ⟨rfl, hp, h⟩ := h
            exact .op ho hg e hp (hK _ _ _ _ h)
          · exact h.elim
        | q again =>
          simp only [dAct] at h
          split at h
          · rename_i p H' r e
            obtain ⟨rfl, hp, h⟩ := h
            exact .op ho hg e hp (hK _ _ _ _ h)
          · exact h.elim
        | a =>
          simp only [dAct] at h
          split at h
          · rename_i t d e1 e2
            split at h
            · rename_i z hz
              exact .alloc ho hg e1 e2 hz h.1 (hK _ _ _ _ h.2)
            · exact h.elim
          · exact h.elim
        | e =>
          simp only [dAct] at h
          split at h
          · rename_i t d z x e
            obtain ⟨h1, h2, h3, h4, h5, h6, h7, -, h9⟩ := h
            exact .store ho hg e h2 h1 h3 h4 h5 h6 h7 (hK _ _ _ _ h9)
          · split at h
            · rename_i p H' r e
              exact .op ho hg e h.1 (hK _ _ _ _ h.2.2)
            · split at h
              · rename_i e
                refine .call ho hg e (ACalls.mono h fun H' r hr => ?_)
                cases r with
                | ret a => exact hK _ _ _ _ hr.2
                | pan a => exact hr
              · exact h.elim
end
end Go.Mc
