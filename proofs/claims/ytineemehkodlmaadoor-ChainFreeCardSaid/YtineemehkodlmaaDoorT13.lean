/- Abstract values and contracts of calls of the program: a part of the logic in which the claim is proved; it states nothing of the program by itself. -/
import Derived.Test.YtineemehkodlmaaDoorT12
set_option linter.all false
namespace Go.Mc

def putT (ts : List AV) (d : Option Tmp) (a : AV) : List AV :=
  match d with
  | some d => ts.set d a
  | none => ts

/-- is the operation wanted? -/
def gdOf (ops : Array Oper) (ts : List AV) : Option (Nat × Bool) → Option Bool
  | none => some true
  | some (j, want) => match (ops[j]?).bind (·.dst) with
    | some d => match ts.getD d .undef with
      | .v (.bool b) => some (b == want)
      | .undef => some false
      | _ => none
    | none => some false

section
variable {E : Prg} {f : FuncId} {m : Nat} {k : List Item} {H H' : List Blk} {ts : List AV} {Q : List Blk → Res → Prop}

theorem ValT.put {G : Ghost} {tm : Array Value} {a : AV} {x : Value} (hv : ValT G ts tm.toList) (ha : Val G a x) (d : Option Tmp) :
    ValT G (putT ts d a) (Act.put { tmps := tm, defers := [] } d x).tmps.toList ∧ (Act.put { tmps := tm, defers := [] } d x).defers = [] := by
  cases d with
  | none => exact ⟨hv, rfl⟩
  | some d => exact ⟨by simpa [putT, Act.put] using hv.set ha d, rfl⟩

theorem put_eq (tm : Array Value) (d : Option Tmp) (x : Value) : Act.put { tmps := tm, defers := [] } d x = { tmps := (Act.put { tmps := tm, defers := [] } d x).tmps, defers := [] } := by cases d <;> rfl

theorem gd_ok {G : Ghost} {tm : Array Value} {ops : Array Oper} {o : Oper} {b : Bool} (hv : ValT G ts tm.toList) (h : gdOf ops ts o.guard = some b) : Region.wanted o (yielded ops tm) = b := by
  unfold gdOf at h
  unfold Region.wanted
  split at h
  · rename_i e; simp only [e]; simpa using h
  · rename_i j want e
    simp only [e]
    split at h
    · rename_i d hd
      have hg := hv.get d
      split at h
      · rename_i b' e'
        rw [e'] at hg
        have e2 := hg.inv_v
        have hlt : d < tm.size := by
          rcases Nat.lt_or_ge d tm.size with q | q
          · exact q
          · rw [List.getD_eq_getElem?_getD, List.getElem?_eq_none (by simpa using q)] at e2
            simp [Go.undef] at e2
        have : tm[d]? = some (.bool b') := by
          simp only [List.getD_eq_getElem?_getD, List.getElem?_eq_getElem (show d < tm.toList.length by simpa using hlt), Option.getD_some] at e2
          simp [hlt]; simpa using e2
        have hy : yielded ops tm j = some b' := by simp [yielded, hd, this]
        rw [hy]
        simp only [Option.some.injEq] at h
        rw [← h]
        cases b' <;> cases want <;> rfl
      · rename_i e'
        rw [e'] at hg
        have : tm[d]? = none ∨ tm[d]? = some Go.undef := by
          rcases Nat.lt_or_ge d tm.size with q | q
          · right
            simp only [List.getD_eq_getElem?_getD, List.getElem?_eq_getElem (show d < tm.toList.length by simpa using q), Option.getD_some] at hg
            generalize htm : tm.toList[d] = y at hg
            cases hg
            simp [q]; simpa using htm
          · left; exact Array.getElem?_eq_none q
        simp only [Option.some.injEq] at h
        have hy : yielded ops tm j = none := by rcases this with e3 | e3 <;> simp [yielded, hd, e3, Go.undef]
        rw [hy, ← h]
        cases want <;> rfl
      · simp at h
    · rename_i hd
      simp only [Option.some.injEq] at h
      have hy : yielded ops tm j = none := by simp [yielded, hd]
      rw [hy, ← h]
      cases want <;> rfl

theorem step_op_value {P : Program} {b : Frame} {a : Act} {k : List Item} {cs : List Frame} {w w' : World} {ops : Array Oper} {i : Nat} {rest : List Nat} {o : Oper} {v : Value} (ho : ops[i]? = some o) (hw : Region.wanted o (yielded ops a.tmps) = true)
    (hr : (execOp a.eval o).run P w = .ok (.value v) w' ∨ ((execOp a.eval o).run P w = .ok .skip w' ∧ v = Go.undef)) :
    step P (lone (b.at a (.inRegion ops (i :: rest) :: k)) cs w) = .next (lone (b.at (a.put o.dst v) (.inRegion ops rest :: k)) cs w') := by
  have hg := stepG_op (P := P) (b := b) (k := k) (cs := cs) (w := w) (rest := rest) ho hw
  have hfin : ∀ v, (b.at a (.inRegion ops (i :: rest) :: k)).finish v = b.at (a.put o.dst v) (.inRegion ops rest :: k) := by
    intro v; rw [Frame.finish_at, ho]; rfl
  rcases hr with hr | ⟨hr, rfl⟩
  · exact step_lone_go (by rw [hg, ← hfin]; simp [stepG.apply, hr])
  · exact step_lone_go (by rw [hg, ← hfin]; simp [stepG.apply, hr])

theorem AM.op {ops : Array Oper} {i : Nat} {rest : List Nat} {o : Oper} {p : Prop} {r : AV} (ho : ops[i]? = some o) (hg : gdOf ops ts o.guard = some true) (h : sop E H ts o.op = some (p, H', r)) (hp : p)
    (hk : AM E f m (.inRegion ops rest :: k) H' (putT ts o.dst r) Q) : AM E f m (.inRegion ops (i :: rest) :: k) H ts Q := by
  intro hm hfx G w tm hs hv cs
  obtain ⟨v, w', G', h1, h2, h3, h4, h5⟩ := sop_ok (E := E) (o := o) hs hv h hp
  have hp := ValT.put (hv.mono h2.le hs.sup) h4 o.dst
  obtain ⟨e, w2, fr, hpost, hc, hfn, hl⟩ := hk (by omega) hfx G' w' _ h3 hp.1 cs
  obtain ⟨G2, H2, r2, q1, q2, q3⟩ := hpost
  refine ⟨e, w2, fr, ⟨G2, H2, r2, q1, (h2.down hm).trans q2, q3⟩, .of_steps (.one ?_) hc, hfn, hl⟩
  have hst := step_op_value (P := E.P) (b := fr0 f) (a := { tmps := tm, defers := [] }) (k := k) (cs := cs) (rest := rest) ho (gd_ok hv hg) h1
  exact hst.trans (by rw [put_eq])

theorem AM.opSkip {ops : Array Oper} {i : Nat} {rest : List Nat} {o : Oper} (ho : ops[i]? = some o) (hg : gdOf ops ts o.guard = some false)
    (hk : AM E f m (.inRegion ops rest :: k) H (putT ts o.dst .undef) Q) : AM E f m (.inRegion ops (i :: rest) :: k) H ts Q := by
  intro hm hfx G w tm hs hv cs
  have hp := ValT.put hv .undef o.dst
  obtain ⟨e, w2, fr, hpost, hc, hfn, hl⟩ := hk hm hfx G w _ hs hp.1 cs
  refine ⟨e, w2, fr, hpost, .of_steps (.one ?_) hc, hfn, hl⟩
  have hst := step_op_skip (P := E.P) (b := fr0 f) (a := { tmps := tm, defers := [] }) (k := k) (cs := cs) (w := w) (ops := ops) (i := i) (rest := rest) (by simp [ho, gd_ok hv hg])
  rw [hst, ho]
  exact congrArg (fun a => Stepped.next (lone ((fr0 f).at a (.inRegion ops rest :: k)) cs w)) (put_eq tm o.dst Go.undef)

/-- the callee of a call and its arguments -/
def calleeOf (E : Prg) (ts : List AV) : Op → Option (FuncId × List AV)
  | .call c => match c.callee with
    | .value x => match ev E ts x with
      | .clo g fs cs => some (g, fs ++ c.args.toList.map (ev E ts) ++ cs)
      | _ => none
    | _ => none
  | _ => none

theorem AM.call {ops : Array Oper} {i : Nat} {rest : List Nat} {o : Oper} {g : FuncId} {avs : List AV} (ho : ops[i]? = some o) (hg : gdOf ops ts o.guard = some true) (hc : calleeOf E ts o.op = some (g, avs))
    (hk : ACalls E g avs H (fun H' r => match r with | .ret a => AM E f m (.inRegion ops rest :: k) H' (putT ts o.dst a) Q | .pan a => Q H' (.pan a))) : AM E f m (.inRegion ops (i :: rest) :: k) H ts Q := by
  intro hm hfx G w tm hs hv cs
  obtain ⟨dst, op, ty, pos, after, guard⟩ := o
  simp only at hg hc hk
  cases op <;> simp only [calleeOf, reduceCtorEq] at hc
  rename_i c
  obtain ⟨callee, args, argTypes⟩ := c
  simp only at hc
  split at hc
  · rename_i x
    split at hc
    · rename_i g' fs cs' e
      simp only [Option.some.injEq, Prod.mk.injEq] at hc
      obtain ⟨rfl, rfl⟩ := hc
      have hx := Val.ev (E := E) hs hv x
      rw [e] at hx
      have hargs := valT_map (fun x => Val.ev (E := E) hs hv x) args.toList
      generalize hxv : Act.eval { tmps := tm, defers := [] } x = xv at hx
      cases hx with
      | clo h1 h2 =>
        rename_i xs ys
        have hall : ValT G (fs ++ args.toList.map (ev E ts) ++ cs') (xs.toArray ++ args.map (Act.eval { tmps := tm, defers := [] }) ++ ys.toArray).toList := by
          simpa using ValT.append h2 (ValT.append hargs h1)
        have hrun : (execOp (Act.eval { tmps := tm, defers := [] }) ⟨dst, .call ⟨.value x, args, argTypes⟩, ty, pos, after, guard⟩).run E.P w = .ok (.enter g' (xs.toArray ++ args.map (Act.eval { tmps := tm, defers := [] }) ++ ys.toArray)) w := by
          have := hk.able (xs.toArray ++ args.map (Act.eval { tmps := tm, defers := [] }) ++ ys.toArray) w
          simp [execOp, resolve, hxv, Deferred.ofValue, invoke, pure]
          simpa using this
        have hcalls := hk.run G w _ hs hall
        have hwant := gd_ok (o := ⟨dst, .call ⟨.value x, args, argTypes⟩, ty, pos, after, guard⟩) hv hg
        have hst := stepG_op (P := E.P) (b := fr0 f) (a := { tmps := tm, defers := [] }) (k := k) (cs := cs) (w := w) (rest := rest) ho hwant
        have hfin : ∀ v, ((fr0 f).at { tmps := tm, defers := [] } (.inRegion ops (i :: rest) :: k)).finish v = (fr0 f).at (Act.put { tmps := tm, defers := [] } dst v) (.inRegion ops rest :: k) := by
          intro v; rw [Frame.finish_at, ho]; rfl
        obtain ⟨en, w'', fr, ⟨G', H', r, hlen, hext, hst', hres, hq⟩, hsteps, -, hleave⟩ := hcalls ((fr0 f).at { tmps := tm, defers := [] } (.inRegion ops (i :: rest) :: k) :: cs)
        have henter : Go.step E.P (lone ((fr0 f).at { tmps := tm, defers := [] } (.inRegion ops (i :: rest) :: k)) cs w) =
            .next (lone (Frame.enter E.P g' (xs.toArray ++ args.map (Act.eval { tmps := tm, defers := [] }) ++ ys.toArray) .normal) ((fr0 f).at { tmps := tm, defers := [] } (.inRegion ops (i :: rest) :: k) :: cs) w) :=
          step_lone_go (by rw [hst]; simp [stepG.apply, hrun, Frame.at])
        cases hres with
        | ret hr =>
          rename_i r v
          simp only at hq
          have hp := ValT.put (hv.mono hext.le hs.sup) hr dst
          obtain ⟨e2, w2, fr2, hpost, hc2, hfn2, hl2⟩ := hq (by omega) hfx G' w'' _ hst' hp.1 cs
          obtain ⟨G2, H2, r2, q1, q2, q3⟩ := hpost
          refine ⟨e2, w2, fr2, ⟨G2, H2, r2, q1, (hext.down hm).trans q2, q3⟩, .of_steps (.head henter (hsteps.trans (.one ?_))) hc2, hfn2, hl2⟩
          rw [step_leave_returned hleave, hfin]
          exact congrArg (fun a => Stepped.next (lone ((fr0 f).at a (.inRegion ops rest :: k)) cs w'')) (put_eq tm dst v)
        | pan hx' =>
          rename_i a x'
          simp only at hq
          refine ⟨_, w'', _, ⟨G', H', .pan a, by omega, hext.down hm, hst', .pan hx', hq⟩, .head henter (hsteps.trans (.one (step_leave_panicked hleave))), rfl, ?_⟩
          rw [Frame.raise_at]
          exact ⟨rfl, rfl, hfx⟩
    · simp at hc
  · simp at hc

/-- the results of a function -/
def Rets (E : Prg) (H : List Blk) (ts : List AV) : List ResultVar → Option (Prop × List AV)
  | [] => some (True, [])
  | .tmp t :: r => match Rets E H ts r with
    | some (p, l) => some (p, ts.getD t .undef :: l)
    | none => none
  | .cell a t :: r => match lopLoad E H t (ts.getD a .undef), Rets E H ts r with
    | some (q, x), some (p, l) => some (q ∧ p, x :: l)
    | _, _ => none
def oneOf : List AV → AV
  | [x] => x
  | l => .tup l

def resF (tm : Array Value) : ResultVar → Sem Value
  | .tmp t => pure (tm.getD t Go.undef)
  | .cell a t => do loadVar t (← asAddr (tm.getD a Go.undef))

theorem run_results_list {G : Ghost} {w : World} {tm : Array Value} (hs : St E.gl G H w) (hv : ValT G ts tm.toList) : ∀ (rs : List ResultVar) {p : Prop} {l : List AV}, Rets E H ts rs = some (p, l) → p →
    ∃ vs, (rs.mapM (resF tm)).run E.P w = .ok vs w ∧ ValT G l vs
  | [], p, l, h, _ => by
    simp only [Rets, Option.some.injEq, Prod.mk.injEq] at h
    obtain ⟨-, rfl⟩ := h
    exact ⟨[], by simp, .nil⟩
  | .tmp t :: r, p, l, h, hp => by
    simp only [Rets] at h
    split at h
    · rename_i p' l' e
      simp only [Option.some.injEq, Prod.mk.injEq] at h
      obtain ⟨rfl, rfl⟩ := h
      obtain ⟨vs, h1, h2⟩ := run_results_list hs hv r e hp
      refine ⟨tm.getD t Go.undef :: vs, ?_, .cons ?_ h2⟩
      · have h0 : (resF tm (.tmp t)).run E.P w = .ok (tm.getD t Go.undef) w := rfl
        rw [List.mapM_cons]
        simp only [Sem.run_bind, h0, Result.andThen_ok, h1, Sem.run_pure]
      · simpa using hv.get t
    · simp at h
  | .cell a t :: r, p, l, h, hp => by
    simp only [Rets] at h
    split at h
    · rename_i q x p' l' e1 e2
      simp only [Option.some.injEq, Prod.mk.injEq] at h
      obtain ⟨rfl, rfl⟩ := h
      obtain ⟨vs, h1, h2⟩ := run_results_list hs hv r e2 hp.2
      have hg : Val G (ts.getD a .undef) (tm.getD a Go.undef) := by simpa using hv.get a
      obtain ⟨v, h3, h4⟩ := lopLoad_ok e1 hp.1 hs hg
      have hadd : ∃ ad, tm.getD a Go.undef = .pointer (some ad) := by
        generalize tm.getD a Go.undef = y at hg
        generalize ts.getD a .undef = z at hg e1
        unfold lopLoad at e1
        split at e1
        · cases hg; exact ⟨_, rfl⟩
        · cases hg; exact ⟨_, rfl⟩
        · simp at e1
      obtain ⟨ad, had⟩ := hadd
      rw [had] at h3
      have h5 : (loadVar t ad).run E.P w = .ok v w := by simpa [Instr.loadAt, run_sureAddr_some] using h3
      refine ⟨v :: vs, ?_, .cons h4 h2⟩
      have h0 : (resF tm (.cell a t)).run E.P w = .ok v w := by
        simp only [resF, had, asAddr, Sem.run_bind]
        exact h5
      rw [List.mapM_cons]
      simp only [Sem.run_bind, h0, Result.andThen_ok, h1, Sem.run_pure]
    · simp at h

theorem AM.ret {fn : Func} {p : Prop} {l : List AV} (hf : E.P.funcs[f]? = some fn) (hr : Rets E H ts fn.results.toList = some (p, l)) (hp : p) (hq : Q H (.ret (oneOf l))) :
    AM E f m (.code .ret :: k) H ts Q ∧ AM E f m [] H ts Q := by
  have key : ∀ (todo : List Item), (∀ (a : Act) cs w, Go.step E.P (lone ((fr0 f).at a todo) cs w) = .next (lone { (fr0 f).at a todo with mode := .returning } cs w)) → AM E f m todo H ts Q := by
    intro todo hstep hm hfx G w tm hs hv cs
    obtain ⟨vs, h1, h2⟩ := run_results_list hs hv fn.results.toList hr hp
    have h3 : (results fn tm).run E.P w = .ok (if h : vs.length = 1 then vs[0] else .tuple vs.toArray) w := by
      have e : results fn tm = (do let vs ← fn.results.mapM (resF tm); pure (if h : vs.size = 1 then vs[0] else .tuple vs)) := by
        unfold results
        congr 2
      rw [e]
      have h4 : (fn.results.mapM (resF tm)).run E.P w = .ok vs.toArray w := by
        rw [Array.mapM_eq_mapM_toList]
        simp only [Sem.run_map, h1, Result.andThen]
      simp only [Sem.run_bind, h4, Result.andThen_ok, Sem.run_pure]
      simp
    refine ⟨.returned (if h : vs.length = 1 then vs[0] else .tuple vs.toArray), w, _, ⟨G, H, .ret (oneOf l), hm, .refl _ _ _, hs, .ret ?_, hq⟩, .one (hstep _ _ _), rfl, rfl, rfl, rfl, fn, hf, h3⟩
    have hl := h2.length
    split
    · rename_i q
      cases h2 with
      | nil => simp at q
      | cons h t =>
        cases t with
        | nil => exact h
        | cons _ _ => simp at q
    · rename_i q
      have : oneOf l = .tup l := by
        unfold oneOf
        split
        · simp at hl; omega
        · rfl
      rw [this]; exact .tup h2
  exact ⟨key _ fun _ _ _ => step_ret, key _ fun _ _ _ => step_end⟩

/-- induction over the rounds of a loop -/
theorem AM.rounds {c : Code} (I : Nat → List Blk → List AV → Prop) {n : Nat} (h0 : I n H ts)
    (h : ∀ n H ts, I n H ts → (∀ n' H' ts', n' < n → I n' H' ts' → AM E f m (.inLoop c :: k) H' ts' Q) → AM E f m (.code c :: .inLoop c :: k) H ts Q) : AM E f m (.code (.loop c) :: k) H ts Q := by
  have key : ∀ n H ts, I n H ts → AM E f m (.code c :: .inLoop c :: k) H ts Q := by
    intro n
    induction n using Nat.strongRecOn with
    | _ n ih => exact fun H ts hi => h n H ts hi fun n' H' ts' hlt hi' => AM.inLoop (ih n' hlt H' ts' hi')
  exact AM.loop (key n H ts h0)
end
end Go.Mc
