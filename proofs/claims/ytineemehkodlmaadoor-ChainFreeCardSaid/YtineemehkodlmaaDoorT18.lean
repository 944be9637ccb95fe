/- Abstract values and contracts of calls of the program: a part of the logic in which the claim is proved; it states nothing of the program by itself. -/
import Derived.Test.YtineemehkodlmaaDoorT17
set_option linter.all false
namespace Go.Mc
section
variable {E : Prg} {f : FuncId} {m : Nat} {k : List Item} {H H' : List Blk} {ts : List AV} {Q : List Blk → Res → Prop} {ops : Array Oper}

/-- the temporaries that have new blocks -/
structure FrOk (n : Nat) (G : Ghost) (w : World) (F : Frs) (tm : Array Value) : Prop where
  blk : ∀ d z, F d = some z → ∃ b x, tm[d]? = some (.pointer (some ⟨b, 0, none⟩)) ∧ n ≤ b ∧ Idle G w b ∧ (∀ G, Val G z x) ∧ Ones x.cells.toList ∧ Holds w b x.cells.toList
  inj : ∀ d d' z z' , F d = some z → F d' = some z' → tm[d]? = tm[d']? → d = d'

def AMF (E : Prg) (f : FuncId) (m : Nat) (todo : List Item) (F : Frs) (H : List Blk) (ts : List AV) (Q : List Blk → Res → Prop) : Prop :=
  m ≤ H.length → (∃ fn, E.P.funcs[f]? = some fn) → ∀ G0 w0 G w (tm : Array Value), Ext m G0 w0 G w → St E.gl G H w → ValT G ts tm.toList → FrOk w0.heap.size G w F tm → ∀ cs, ∃ e w' fr, Post E m G0 w0 Q e w' ∧
    Comes E.P (lone ((fr0 f).at { tmps := tm, defers := [] } todo) cs w) (lone fr cs w') e ∧ fr.fn = f ∧ fr.leaving E.P w' e

theorem FrOk.ext {n n' : Nat} {G G' : Ghost} {w w' : World} {F : Frs} {tm : Array Value} {x : Value} (h : FrOk n' G w F tm) (he : Ext n G w G' w') (d : Option Tmp) :
    FrOk n' G' w' (wF F d none) (Act.put { tmps := tm, defers := [] } d x).tmps := by
  have key : ∀ j z, wF F d none j = some z → F j = some z ∧ (Act.put { tmps := tm, defers := [] } d x).tmps[j]? = tm[j]? := by
    intro j z e
    unfold wF at e
    split at e
    · simp at e
    · rename_i q
      refine ⟨e, ?_⟩
      cases d with
      | none => rfl
      | some d => simp [Act.put, Array.getElem?_setIfInBounds, show ¬ d = j from fun h => q (by rw [h])]
  refine ⟨fun j z e => ?_, fun j j' z z' e e' q => ?_⟩
  · obtain ⟨e1, e2⟩ := key j z e
    obtain ⟨b, y, h1, h0, h2, h3, h4, h5⟩ := h.blk j z e1
    exact ⟨b, y, by rw [e2, h1], h0, (he.idle b h2).2, h3, h4, h5.of_heap (he.idle b h2).1⟩
  · obtain ⟨e1, e2⟩ := key j z e
    obtain ⟨e1', e2'⟩ := key j' z' e'
    exact h.inj j j' z z' e1 e1' (by rw [← e2, q, e2'])

theorem AMF.of {F : Frs} (h : AM E f m k H ts Q) : AMF E f m k F H ts Q := by
  intro hm hfx G0 w0 G w tm he hs hv _ cs
  obtain ⟨e, w2, fr, ⟨G2, H2, r2, q1, q2, q3⟩, h2⟩ := h hm hfx G w tm hs hv cs
  exact ⟨e, w2, fr, ⟨G2, H2, r2, q1, he.trans q2, q3⟩, h2⟩
theorem AMF.done {F : Frs} (h : AM E f m k H ts Q) : AMF E f m (.inRegion ops [] :: k) F H ts Q := .of (.regionEnd h)

theorem AMF.skip {F : Frs} {i : Nat} {rest : List Nat} {o : Oper} (ho : ops[i]? = some o) (hg : gdOf ops ts o.guard = some false)
    (hk : AMF E f m (.inRegion ops rest :: k) (wF F o.dst none) H (putT ts o.dst .undef) Q) : AMF E f m (.inRegion ops (i :: rest) :: k) F H ts Q := by
  intro hm hfx G0 w0 G w tm he hs hv hF cs
  have hp := ValT.put hv .undef o.dst
  obtain ⟨e, w2, fr, hpost, hc, hfn, hl⟩ := hk hm hfx G0 w0 G w _ he hs hp.1 (hF.ext (.refl 0 G w) o.dst) cs
  refine ⟨e, w2, fr, hpost, .of_steps (.one ?_) hc, hfn, hl⟩
  have hst := step_op_skip (P := E.P) (b := fr0 f) (a := { tmps := tm, defers := [] }) (k := k) (cs := cs) (w := w) (ops := ops) (i := i) (rest := rest) (by simp [ho, gd_ok hv hg])
  rw [hst, ho]
  exact congrArg (fun a => Stepped.next (lone ((fr0 f).at a (.inRegion ops rest :: k)) cs w)) (put_eq tm o.dst Go.undef)

theorem AMF.op {F : Frs} {i : Nat} {rest : List Nat} {o : Oper} {p : Prop} {r : AV} (ho : ops[i]? = some o) (hg : gdOf ops ts o.guard = some true) (h : sop E H ts o.op = some (p, H', r)) (hp : p)
    (hk : AMF E f m (.inRegion ops rest :: k) (wF F o.dst none) H' (putT ts o.dst r) Q) : AMF E f m (.inRegion ops (i :: rest) :: k) F H ts Q := by
  intro hm hfx G0 w0 G w tm he hs hv hF cs
  obtain ⟨v, w', G', h1, h2, h3, h4, h5⟩ := sop_ok (E := E) (o := o) hs hv h hp
  have hp := ValT.put (hv.mono h2.le hs.sup) h4 o.dst
  obtain ⟨e, w2, fr, hpost, hc, hfn, hl⟩ := hk (by omega) hfx G0 w0 G' w' _ (he.trans (h2.down hm)) h3 hp.1 (hF.ext h2 o.dst) cs
  refine ⟨e, w2, fr, hpost, .of_steps (.one ?_) hc, hfn, hl⟩
  have hst := step_op_value (P := E.P) (b := fr0 f) (a := { tmps := tm, defers := [] }) (k := k) (cs := cs) (rest := rest) ho (gd_ok hv hg) h1
  exact hst.trans (by rw [put_eq])

theorem AMF.call {F : Frs} {i : Nat} {rest : List Nat} {o : Oper} {g : FuncId} {avs : List AV} (ho : ops[i]? = some o) (hg : gdOf ops ts o.guard = some true) (hc : calleeOf E ts o.op = some (g, avs))
    (hk : ACalls E g avs H (fun H' r => match r with | .ret a => AMF E f m (.inRegion ops rest :: k) (wF F o.dst none) H' (putT ts o.dst a) Q | .pan a => Q H' (.pan a))) : AMF E f m (.inRegion ops (i :: rest) :: k) F H ts Q := by
  intro hm hfx G0 w0 G w tm he hs hv hF cs
  obtain ⟨dst, op, ty, pos, after, guard⟩ := o
  simp only at hg hc hk
  cases op <;> simp only [calleeOf, reduceCtorEq] at hc
  rename_i c
  obtain ⟨callee, args, argTypes⟩ := c
  simp only at hc
  split at hc
  · rename_i x
    split at hc
    · rename_i g' fs cs' e
      simp only [Option.some.injEq, Prod.mk.injEq] at hc
      obtain ⟨rfl, rfl⟩ := hc
      have hx := Val.ev (E := E) hs hv x
      rw [e] at hx
      have hargs := valT_map (fun x => Val.ev (E := E) hs hv x) args.toList
      generalize hxv : Act.eval { tmps := tm, defers := [] } x = xv at hx
      cases hx with
      | clo h1 h2 =>
        rename_i xs ys
        have hall : ValT G (fs ++ args.toList.map (ev E ts) ++ cs') (xs.toArray ++ args.map (Act.eval { tmps := tm, defers := [] }) ++ ys.toArray).toList := by
          simpa using ValT.append h2 (ValT.append hargs h1)
        have hrun : (execOp (Act.eval { tmps := tm, defers := [] }) ⟨dst, .call ⟨.value x, args, argTypes⟩, ty, pos, after, guard⟩).run E.P w = .ok (.enter g' (xs.toArray ++ args.map (Act.eval { tmps := tm, defers := [] }) ++ ys.toArray)) w := by
          have := hk.able (xs.toArray ++ args.map (Act.eval { tmps := tm, defers := [] }) ++ ys.toArray) w
          simp [execOp, resolve, hxv, Deferred.ofValue, invoke, pure]
          simpa using this
        have hcalls := hk.run G w _ hs hall
        have hwant := gd_ok (o := ⟨dst, .call ⟨.value x, args, argTypes⟩, ty, pos, after, guard⟩) hv hg
        have hst := stepG_op (P := E.P) (b := fr0 f) (a := { tmps := tm, defers := [] }) (k := k) (cs := cs) (w := w) (rest := rest) ho hwant
        have hfin : ∀ v, ((fr0 f).at { tmps := tm, defers := [] } (.inRegion ops (i :: rest) :: k)).finish v = (fr0 f).at (Act.put { tmps := tm, defers := [] } dst v) (.inRegion ops rest :: k) := by
          intro v; rw [Frame.finish_at, ho]; rfl
        obtain ⟨en, w'', fr, ⟨G', H', r, hlen, hext, hst', hres, hq⟩, hsteps, -, hleave⟩ := hcalls ((fr0 f).at { tmps := tm, defers := [] } (.inRegion ops (i :: rest) :: k) :: cs)
        have henter : Go.step E.P (lone ((fr0 f).at { tmps := tm, defers := [] } (.inRegion ops (i :: rest) :: k)) cs w) =
            .next (lone (Frame.enter E.P g' (xs.toArray ++ args.map (Act.eval { tmps := tm, defers := [] }) ++ ys.toArray) .normal) ((fr0 f).at { tmps := tm, defers := [] } (.inRegion ops (i :: rest) :: k) :: cs) w) :=
          step_lone_go (by rw [hst]; simp [stepG.apply, hrun, Frame.at])
        cases hres with
        | ret hr =>
          rename_i r v
          simp only at hq
          have hp := ValT.put (hv.mono hext.le hs.sup) hr dst
          obtain ⟨e2, w2, fr2, hpost, hc2, hfn2, hl2⟩ := hq (by omega) hfx G0 w0 G' w'' _ (he.trans (hext.down hm)) hst' hp.1 (hF.ext hext dst) cs
          refine ⟨e2, w2, fr2, hpost, .of_steps (.head henter (hsteps.trans (.one ?_))) hc2, hfn2, hl2⟩
          rw [step_leave_returned hleave, hfin]
          exact congrArg (fun a => Stepped.next (lone ((fr0 f).at a (.inRegion ops rest :: k)) cs w'')) (put_eq tm dst v)
        | pan hx' =>
          rename_i a x'
          simp only at hq
          refine ⟨_, w'', _, ⟨G', H', .pan a, by omega, he.trans (hext.down hm), hst', .pan hx', hq⟩, .head henter (hsteps.trans (.one (step_leave_panicked hleave))), rfl, ?_⟩
          rw [Frame.raise_at]
          exact ⟨rfl, rfl, hfx⟩
    · simp at hc
  · simp at hc
end
end Go.Mc
