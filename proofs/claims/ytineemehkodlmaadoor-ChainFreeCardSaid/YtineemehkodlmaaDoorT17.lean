/- Abstract values and contracts of calls of the program: a part of the logic in which the claim is proved; it states nothing of the program by itself. -/
import Derived.Test.YtineemehkodlmaaDoorT16
set_option linter.all false
namespace Go.Mc
section
variable {E : Prg} {Q : List Blk → Res → Prop} {ops : Array Oper} {D : Chks} {F : Frs} {H : List Blk} {ts : List AV}

structure Indep (ops : Array Oper) (y x : Oper) : Prop where
  yd : ∀ d, y.dst = some d → d ∉ x.looksAt ops ∧ x.dst ≠ some d
  xd : ∀ d, x.dst = some d → d ∉ y.looksAt ops
  xs : ∀ t d v, x.op = .store t (.tmp d) v → d ∉ y.looksAt ops ∧ y.dst ≠ some d

theorem indep_spec {y x : Oper} (h : indep ops y x = true) : Indep ops y x := by
  simp only [indep, Bool.and_eq_true, List.all_eq_true, Bool.not_eq_true', List.contains_eq_mem, decide_eq_false_iff_not] at h
  obtain ⟨h1, h2⟩ := h
  refine ⟨fun d hd => ?_, fun d hd => ?_, fun t d v e => ?_⟩
  · have := h1 d (by simp [wrs, hd])
    exact ⟨this.1, fun q => this.2 (by simp [wrs, q])⟩
  · exact h2 d (by simp [wrs, hd])
  · have hw : d ∈ wrs x := by simp [wrs, e]
    exact ⟨h2 d hw, fun q => (h1 d (by simp [wrs, q])).2 hw⟩

theorem frStore_some {op : Op} {t : TypeId} {d : Nat} {z : AV} {x : Operand} (h : frStore F op = some (t, d, z, x)) : op = .store t (.tmp d) x ∧ F d = some z := by
  unfold frStore at h
  split at h
  · split at h
    · rename_i e; simp only [Option.some.injEq, Prod.mk.injEq] at h; obtain ⟨rfl, rfl, rfl, rfl⟩ := h; exact ⟨rfl, e⟩
    · simp at h
  · simp at h
theorem frStore_wF {op : Op} {d : Option Tmp} {z : Option AV} (h : ∀ t j v, op = .store t (.tmp j) v → d ≠ some j) : frStore (wF F d z) op = frStore F op := by
  unfold frStore
  split
  · have := h _ _ _ rfl
    simp [wF, this]
  · rfl

theorem dOne_quiet {K : DSt} {i : Nat} {kd : DK} {pend : List Nat} {o : Oper} (h : dOne E Q ops K (i, kd, pend) D F H ts) (ho : ops[i]? = some o) (hk : kd ≠ .e) (hlt : kd = .l → light o.op = true) :
    ∃ (fD : Chks → Chks) (z : Option AV) (v : AV) (c : List Blk → Prop), K (fD D) (wF F o.dst z) H (putT ts o.dst v) ∧ c H ∧
      ((fD = id ∧ (∀ H2, c H2)) ∨ (fD = (fun D => setD D i c) ∧ kd = .q true) ∨ (kd = .q false ∧ fD = id)) ∧
      (∀ (K' : DSt) D2 F2 H2 ts2, Agr ops o ts ts2 → ts2.length = ts.length → c H2 → K' (fD D2) (wF F2 o.dst z) H2 (putT ts2 o.dst v) → dOne E Q ops K' (i, kd, pend) D2 F2 H2 ts2) := by
  unfold dOne at h
  simp only [ho] at h
  split at h
  · exact h.elim
  · rename_i g hg
    cases g with
    | false =>
      refine ⟨id, none, .undef, fun _ => True, h.2 rfl, trivial, .inl ⟨rfl, fun _ => trivial⟩, fun K' D2 F2 H2 ts2 ha hl _ hk2 => ?_⟩
      unfold dOne
      simp only [ho, ← ha.gd, hg]
      exact .mk (fun q => by simp at q) (fun _ => hk2)
    | true =>
      have h := h.1 rfl
      cases kd with
      | q again =>
        simp only [dAct] at h
        split at h
        · rename_i p H' r e
          obtain ⟨rfl, hp, hK⟩ := h
          cases again with
          | true =>
            refine ⟨fun D => setD D i (Chk E ts o.op r), none, r, Chk E ts o.op r, by simpa using hK, ?_, .inr (.inl ⟨rfl, rfl⟩), fun K' D2 F2 H2 ts2 ha hl hc hk2 => ?_⟩
            · simp [Chk, e, hp]
            · unfold dOne
              simp only [ho, ← ha.gd, hg]
              refine .mk (fun _ => ?_) (fun q => by simp at q)
              simp only [dAct]
              unfold Chk at hc
              rw [← sop_congr ha.ev ha.fr]
              split at hc
              · rename_i p2 H3 r2 e2
                obtain ⟨hp2, rfl, rfl⟩ := hc
                simp only [if_true]
                refine ⟨trivial, hp2, ?_⟩
                rw [← chk_congr ha.ev ha.fr]
                exact hk2
              · exact hc.elim
          | false =>
            refine ⟨id, none, r, fun H2 => H2 = H', by simpa using hK, rfl, .inr (.inr ⟨rfl, rfl⟩), fun K' D2 F2 H2 ts2 ha hl hc hk2 => ?_⟩
            subst hc
            unfold dOne
            simp only [ho, ← ha.gd, hg]
            refine .mk (fun _ => ?_) (fun q => by simp at q)
            simp only [dAct]
            rw [← sop_congr ha.ev ha.fr, e]
            exact ⟨rfl, hp, by simpa using hk2⟩
        · exact h.elim
      | l =>
        simp only [dAct] at h
        split at h
        · rename_i p H' r e
          obtain ⟨rfl, hp, hK⟩ := h
          refine ⟨id, none, r, fun _ => True, hK, trivial, .inl ⟨rfl, fun _ => trivial⟩, fun K' D2 F2 H2 ts2 ha hl _ hk2 => ?_⟩
          unfold dOne
          simp only [ho, ← ha.gd, hg]
          refine .mk (fun _ => ?_) (fun q => by simp at q)
          simp only [dAct]
          rw [← sop_congr ha.ev ha.fr, sop_light (hlt rfl) e]
          exact ⟨rfl, hp, hk2⟩
        · exact h.elim
      | a =>
        simp only [dAct] at h
        split at h
        · rename_i t d e1 e2
          split at h
          · rename_i z hz
            refine ⟨id, some z, .any, fun _ => True, by rw [e2]; exact h.2, trivial, .inl ⟨rfl, fun _ => trivial⟩, fun K' D2 F2 H2 ts2 ha hl _ hk2 => ?_⟩
            rw [e2] at hk2
            unfold dOne
            simp only [ho, ← ha.gd, hg]
            refine .mk (fun _ => ?_) (fun q => by simp at q)
            simp only [dAct, e1, e2, hz]
            exact ⟨by rw [hl]; exact h.1, hk2⟩
          · exact h.elim
        · exact h.elim
      | e => exact absurd rfl hk

theorem dOne_swap {K : DSt} {y x : DIt} (h : dOne E Q ops (dOne E Q ops K x) y D F H ts) (hs : swapOk ops y x = true) (hne : y.1 ≠ x.1) : dOne E Q ops (dOne E Q ops K y) x D F H ts := by
  obtain ⟨i, ky, py⟩ := y
  obtain ⟨j, kx, px⟩ := x
  unfold swapOk at hs
  simp only at hs hne
  split at hs
  rotate_left
  · simp at hs
  rename_i oy ox hoy hox
  rw [Bool.and_eq_true] at hs
  obtain ⟨hi, hs⟩ := hs
  have hi := indep_spec hi
  have hky : ky ≠ .e := by rintro rfl; simp at hs
  have hlt : ky = .l → light oy.op = true := by rintro rfl; simpa using hs
  obtain ⟨fD, z, v, c, hK, hc, hfD, hback⟩ := dOne_quiet h hoy hky hlt
  have hax : Agr ops ox ts (putT ts oy.dst v) := Agr.put fun d hd => (hi.yd d hd).1
  have hay : ∀ a, Agr ops oy ts (putT ts ox.dst a) := fun a => Agr.put fun d hd => hi.xd d hd
  have hdd : ∀ d, oy.dst = some d → ox.dst ≠ some d := fun d hd => (hi.yd d hd).2
  unfold dOne at hK
  simp only [hox, ← hax.gd] at hK
  show dOne E Q ops (dOne E Q ops K (i, ky, py)) (j, kx, px) D F H ts
  rw [dOne]
  simp only [hox]
  split at hK
  · exact hK.elim
  · rename_i g hg
    refine .mk (fun q => ?_) (fun q => ?_)
    rotate_left
    · have h1 := hK.2 q
      rw [wF_comm hdd, putT_comm hdd] at h1
      exact hback _ _ _ _ _ (hay _) (putT_length _ _ _) hc h1
    · have h1 := hK.1 q
      have hcomm : ∀ d, fD (setD D j d) = setD (fD D) j d := by
        intro d
        rcases hfD with ⟨rfl, -⟩ | ⟨rfl, -⟩ | ⟨-, rfl⟩
        · rfl
        · exact setD_comm (Ne.symm hne)
        · rfl
      cases kx with
      | l =>
        simp only [dAct] at h1 ⊢
        rw [← sop_congr hax.ev hax.fr] at h1
        split at h1
        · rename_i p H' r e
          obtain ⟨rfl, hp, h1⟩ := h1
          rw [wF_comm hdd, putT_comm hdd] at h1
          exact ⟨rfl, hp, hback _ _ _ _ _ (hay _) (putT_length _ _ _) hc h1⟩
        · exact h1.elim
      | q again =>
        simp only [dAct] at h1 ⊢
        rw [← sop_congr hax.ev hax.fr] at h1
        split at h1
        · rename_i p H' r e
          obtain ⟨rfl, hp, h1⟩ := h1
          rw [wF_comm hdd, putT_comm hdd] at h1
          refine ⟨rfl, hp, hback _ _ _ _ _ (hay _) (putT_length _ _ _) hc ?_⟩
          cases again
          · simpa using h1
          · simp only [if_true] at h1 ⊢
            rw [hcomm, chk_congr hax.ev hax.fr]
            exact h1
        · exact h1.elim
      | a =>
        simp only [dAct] at h1 ⊢
        split at h1
        · rename_i t d e1 e2
          split at h1
          · rename_i z' hz
            rw [e2] at hdd
            obtain ⟨hl, h1⟩ := h1
            rw [wF_comm hdd, putT_comm hdd] at h1
            have hay' := hay .any
            rw [e2] at hay'
            exact ⟨by rw [putT_length] at hl; exact hl, hback _ _ _ _ _ hay' (putT_length _ _ _) hc h1⟩
          · exact h1.elim
        · exact h1.elim
      | e =>
        have hpass : ∀ {H'}, rech (fD D) H' px → rech D H' px ∧ c H' := by
          intro H' hr
          rcases hfD with ⟨rfl, hcc⟩ | ⟨rfl, rfl⟩ | ⟨rfl, -⟩
          · exact ⟨hr, hcc _⟩
          · have := rech_sub hr
            refine ⟨this.1, this.2 ?_⟩
            simpa using hs
          · simp at hs
        simp only [dAct] at h1 ⊢
        rw [frStore_wF (fun t d x e => (hi.xs t d x e).2)] at h1
        split at h1
        · rename_i t d z' x e
          obtain ⟨hl, hnd, h2, h3, h4, h5, hlt, h6, h7⟩ := h1
          have he := frStore_some e
          have hev : ev E (putT ts oy.dst v) x = ev E ts x := (hax.ev x (by simp [he.1, Op.operands])).symm
          rw [hev] at h2 h3 h5 hlt h6 h7
          have hds : ∀ j, oy.dst = some j → some d ≠ some j := fun j hj q => by cases q; exact (hi.xs _ _ _ he.1).2 hj
          have ha : ∀ a, Agr ops oy ts (putT ts (some d) a) := fun a => Agr.put fun j hj q => by cases hj; exact (hi.xs _ _ _ he.1).1 q
          obtain ⟨h6, h8⟩ := hpass h6
          rw [wF_comm hds, putT_comm hds] at h7
          exact ⟨by rw [putT_length] at hl; exact hl, hnd, h2, h3, h4, h5, hlt, h6, hback _ _ _ _ _ (ha _) (putT_length _ _ _) h8 h7⟩
        · rw [← sop_congr hax.ev hax.fr] at h1
          split at h1
          · rename_i p H' r e
            obtain ⟨hp, h6, h7⟩ := h1
            obtain ⟨h6, h8⟩ := hpass h6
            rw [wF_comm hdd, putT_comm hdd] at h7
            exact ⟨hp, h6, hback _ _ _ _ _ (hay _) (putT_length _ _ _) h8 h7⟩
          · rw [← callee_congr hax.ev] at h1
            split at h1
            · refine ACalls.mono h1 fun H' r hr => ?_
              cases r with
              | ret a =>
                simp only at hr ⊢
                obtain ⟨h6, h7⟩ := Lock.get hr
                refine Lock.mk ?_
                obtain ⟨h6, h8⟩ := hpass h6
                rw [wF_comm hdd, putT_comm hdd] at h7
                exact ⟨h6, hback _ _ _ _ _ (hay _) (putT_length _ _ _) h8 h7⟩
              | pan a => exact hr
            · exact h1.elim

theorem dAct_mono {K K' : DSt} (hK : ∀ D F H ts, K D F H ts → K' D F H ts) {i : Nat} {o : Oper} {pend : List Nat} {kd : DK} (h : dAct E Q K i o pend D F H ts kd) : dAct E Q K' i o pend D F H ts kd := by
  cases kd with
  | l =>
    simp only [dAct] at h ⊢
    split at h
    · exact ⟨h.1, h.2.1, hK _ _ _ _ h.2.2⟩
    · exact h.elim
  | q again =>
    simp only [dAct] at h ⊢
    split at h
    · exact ⟨h.1, h.2.1, hK _ _ _ _ h.2.2⟩
    · exact h.elim
  | a =>
    simp only [dAct] at h ⊢
    split at h
    · split at h
      · exact ⟨h.1, hK _ _ _ _ h.2⟩
      · exact h.elim
    · exact h.elim
  | e =>
    simp only [dAct] at h ⊢
    split at h
    · obtain ⟨h1, h2, h3, h4, h5, h6, h7, h8, h9⟩ := h
      exact ⟨h1, h2, h3, h4, h5, h6, h7, h8, hK _ _ _ _ h9⟩
    · split at h
      · exact ⟨h.1, h.2.1, hK _ _ _ _ h.2.2⟩
      · split at h
        · refine ACalls.mono h fun H' r hr => ?_
          cases r with
          | ret a => exact ⟨hr.1, hK _ _ _ _ hr.2⟩
          | pan a => exact hr
        · exact h.elim
theorem dOne_mono {K K' : DSt} (hK : ∀ D F H ts, K D F H ts → K' D F H ts) {x : DIt} (h : dOne E Q ops K x D F H ts) : dOne E Q ops K' x D F H ts := by
  unfold dOne at h ⊢
  split at h
  · exact h.elim
  · split at h
    · exact h.elim
    · exact .mk (fun q => dAct_mono hK (h.1 q)) (fun q => hK _ _ _ _ (h.2 q))

theorem AXl_front {K : List Blk → List AV → Prop} {x : DIt} {post : List DIt} : ∀ {pre : List DIt} {D : Chks} {F : Frs} {H : List Blk} {ts : List AV}, AXl E Q ops K (pre ++ x :: post) D F H ts → (∀ y ∈ pre, swapOk ops y x = true ∧ y.1 ≠ x.1) →
    AXl E Q ops K (x :: (pre ++ post)) D F H ts
  | [], _, _, _, _, h, _ => h
  | y :: pre, D, F, H, ts, h, hs => by
    have h1 : dOne E Q ops (dOne E Q ops (AXl E Q ops K (pre ++ post)) x) y D F H ts := by
      refine dOne_mono (fun D F H ts q => ?_) h
      exact AXl_front (pre := pre) q fun y hy => hs y (List.mem_cons_of_mem _ hy)
    exact dOne_swap h1 (hs y (List.mem_cons_self ..)).1 (hs y (List.mem_cons_self ..)).2
end
end Go.Mc
