/- Abstract values and contracts of calls of the program: a part of the logic in which the claim is proved; it states nothing of the program by itself. -/
import Derived.Test.YtineemehkodlmaaDoorT3
set_option linter.all false
namespace Go.Mc

def tsz (P : Program) (t : TypeId) : Option Nat := (P.info? t).map (·.size)
def tby (P : Program) (t : TypeId) : Option Nat := (P.info? t).map (·.bytes)
def isTree : TypeDesc → Bool
  | .struct _ | .array _ _ => true
  | _ => false
def tkind (P : Program) (t : TypeId) : Option Bool := (P.underlying t).map isTree

def AV.tree : AV → Bool
  | .node _ _ | .arr _ _ => true
  | _ => false
/-- it may lie in a cell -/
def AV.stor : AV → Bool
  | .undef | .tup _ | .any | .fresh _ => false
  | _ => true
def AV.wd : AV → Nat
  | .node ws _ => ws.sum
  | .arr sz as => as.length * sz
  | .undef | .tup _ | .any | .fresh _ => 0
  | _ => 1
/-- the value is one of this type -/
structure Fits (P : Program) (t : TypeId) (a : AV) : Prop where
  size : tsz P t = some a.wd
  kind : tkind P t = some a.tree
  stor : a.stor = true

/-- the type, the offset and the size of a field -/
def fld (P : Program) (s : TypeId) (f : Nat) : Option (TypeId × Nat × Nat) :=
  match P.underlying s with
  | some (.struct fs) => (fs[f]?).bind fun fd => (tsz P fd.type).map fun n => (fd.type, fd.offset, n)
  | _ => none

/-- the widths of the parts are those of the type -/
def lays : Nat → List Nat → List (Nat × Nat)
  | _, [] => []
  | o, n :: r => (o, n) :: lays (o + n) r
def Laid (P : Program) (t : TypeId) : AV → Prop
  | .node ws _ => ∃ fs, P.underlying t = some (.struct fs) ∧ fs.toList.mapM (fun f => (P.info? f.type).map fun i => (f.offset, i.size)) = some (lays 0 ws)
  | .arr sz as => ∃ e, P.underlying t = some (.array as.length e) ∧ tsz P e = some sz
  | _ => True

structure ZOk (P : Program) (t : TypeId) (a : AV) : Prop where
  fits : Fits P t a
  lt : a.lt 0
  val : ∃ z, (P.info? t).map (·.zero) = some (some z) ∧ ∀ G, Val G a z
  laid : Laid P t a

/-- a program, with what its package-level variables hold and what its zero values are -/
structure Prg where
  P : Program
  gl : Nat → Option AV
  zv : TypeId → Option AV
  zok : ∀ t a, zv t = some a → ZOk P t a

inductive Res where
  | ret (a : AV)
  | pan (a : AV)

inductive ResOk (G : Ghost) : Ending → Res → Prop
  | ret {r v} : Val G r v → ResOk G (.returned v) (.ret r)
  | pan {a x} : Val G a x → ResOk G (.panicked [{ v := x, recovered := false }]) (.pan a)

/-- what holds behind a call, or behind the rest of a body -/
def Post (E : Prg) (m : Nat) (G : Ghost) (w : World) (Q : List Blk → Res → Prop) (e : Ending) (w' : World) : Prop :=
  ∃ G' H' r, m ≤ H'.length ∧ Ext m G w G' w' ∧ St E.gl G' H' w' ∧ ResOk G' e r ∧ Q H' r

/-- f is entered when it is called -/
def Callable (P : Program) (f : FuncId) : Prop := ∀ args w, (callFunc f args).run P w = .ok (.enter f args) w
/-- the call of f with these arguments in this heap ends as Q says -/
structure ACalls (E : Prg) (f : FuncId) (avs : List AV) (H : List Blk) (Q : List Blk → Res → Prop) : Prop where
  able : Callable E.P f
  run : ∀ G w (vs : Array Value), St E.gl G H w → ValT G avs vs.toList → Calls E.P f vs w (Post E H.length G w Q)

theorem Post.mono {E : Prg} {m G w} {Q Q' : List Blk → Res → Prop} {e w'} (h : Post E m G w Q e w') (hq : ∀ H r, Q H r → Q' H r) : Post E m G w Q' e w' := by
  obtain ⟨G', H', r, h1, h2, h3, h4, h5⟩ := h
  exact ⟨G', H', r, h1, h2, h3, h4, hq _ _ h5⟩
theorem ACalls.mono {E : Prg} {f avs H} {Q Q' : List Blk → Res → Prop} (h : ACalls E f avs H Q) (hq : ∀ H r, Q H r → Q' H r) : ACalls E f avs H Q' :=
  ⟨h.able, fun G w vs hs hv => (h.run G w vs hs hv).mono fun _ _ p => p.mono hq⟩

def fr0 (f : FuncId) : Frame := { (default : Frame) with fn := f, kind := .normal }

/-- the rest of a body -/
def AM (E : Prg) (f : FuncId) (m : Nat) (todo : List Item) (H : List Blk) (ts : List AV) (Q : List Blk → Res → Prop) : Prop :=
  m ≤ H.length → (∃ fn, E.P.funcs[f]? = some fn) → ∀ G w (tm : Array Value), St E.gl G H w → ValT G ts tm.toList → ∀ cs, ∃ e w' fr, Post E m G w Q e w' ∧
    Comes E.P (lone ((fr0 f).at { tmps := tm, defers := [] } todo) cs w) (lone fr cs w') e ∧ fr.fn = f ∧ fr.leaving E.P w' e

section
variable {E : Prg} {f : FuncId} {m : Nat} {k : List Item} {H : List Blk} {ts : List AV} {Q : List Blk → Res → Prop}

theorem ACalls.enter {fn : Func} {c : Code} {avs : List AV} (hcal : Callable E.P f) (hf : E.P.funcs[f]? = some fn) (hb : fn.body = some c)
    (h : AM E f H.length [.code c] H (avs ++ List.replicate (fn.ntmps - avs.length) .undef) Q) : ACalls E f avs H Q := by
  refine ⟨hcal, ?_⟩
  intro G w vs hs hv cs
  have e : Frame.enter E.P f vs .normal = (fr0 f).at { tmps := vs ++ Array.replicate (fn.ntmps - vs.size) undef, defers := [] } [.code c] := by
    simp [Frame.enter, Frame.at, hf, hb, fr0]
  rw [e]
  have hl : avs.length = vs.size := by simpa using hv.length
  exact h (Nat.le_refl _) ⟨fn, hf⟩ G w _ hs (by rw [hl]; simpa using (ValT.append (ValT.undefs G (fn.ntmps - vs.size)) hv)) cs

/-- a step that changes neither memory nor temporaries -/
theorem AM.step {t1 t2 : List Item} (hstep : ∀ (a : Act) cs w, step E.P (lone ((fr0 f).at a t1) cs w) = .next (lone ((fr0 f).at a t2) cs w)) (h : AM E f m t2 H ts Q) : AM E f m t1 H ts Q := by
  intro hm hfx G w tm hs hv cs
  obtain ⟨e, w', fr, hp, hc, hfn, hl⟩ := h hm hfx G w tm hs hv cs
  exact ⟨e, w', fr, hp, .of_steps (.one (hstep _ _ _)) hc, hfn, hl⟩

theorem AM.skip (h : AM E f m k H ts Q) : AM E f m (.code .skip :: k) H ts Q := h.step fun _ _ _ => step_skip
theorem AM.label {l : Nat} (h : AM E f m k H ts Q) : AM E f m (.code (.label l) :: k) H ts Q := h.step fun _ _ _ => step_label
theorem AM.inBlock {id : Nat} (h : AM E f m k H ts Q) : AM E f m (.inBlock id :: k) H ts Q := h.step fun _ _ _ => step_inBlock
theorem AM.seq {x y : Code} (h : AM E f m (.code x :: .code y :: k) H ts Q) : AM E f m (.code (.seq x y) :: k) H ts Q := h.step fun _ _ _ => step_seq
theorem AM.block {id : Nat} {c : Code} (h : AM E f m (.code c :: .inBlock id :: k) H ts Q) : AM E f m (.code (.block id c) :: k) H ts Q := h.step fun _ _ _ => step_block
theorem AM.loop {c : Code} (h : AM E f m (.code c :: .inLoop c :: k) H ts Q) : AM E f m (.code (.loop c) :: k) H ts Q := h.step fun _ _ _ => step_loop
theorem AM.inLoop {c : Code} (h : AM E f m (.code c :: .inLoop c :: k) H ts Q) : AM E f m (.inLoop c :: k) H ts Q := h.step fun _ _ _ => step_inLoop
theorem AM.exit {id : Nat} {k' : List Item} (e : exitTo id k = some k') (h : AM E f m k' H ts Q) : AM E f m (.code (.exit id) :: k) H ts Q := h.step fun _ _ _ => step_exit e
theorem AM.region {id : Nat} {ops : Array Oper} (h : AM E f m (.inRegion ops (List.range ops.size) :: k) H ts Q) : AM E f m (.code (.region id ops false) :: k) H ts Q := h.step fun _ _ _ => step_region
theorem AM.regionEnd {ops : Array Oper} (h : AM E f m k H ts Q) : AM E f m (.inRegion ops [] :: k) H ts Q := h.step fun _ _ _ => step_region_end

/-- what an operand is -/
def cst : Value → AV
  | .slice none 0 0 => .sl 0 [] true
  | v => if v.oneCell' then .v v else .any
def ev (E : Prg) (ts : List AV) : Operand → AV
  | .tmp t => match ts.getD t .undef with | .fresh a => a | a => a
  | .const v => cst v
  | .global g => match E.gl g with | some a => .cptr a | none => .any
  | .func f => .clo f [] []

theorem Val.inv_v {G : Ghost} {x y : Value} (h : Val G (.v x) y) : y = x := by cases h; rfl
theorem Val.cst {G : Ghost} (v : Value) : Val G (cst v) v := by
  unfold Mc.cst
  split
  · exact .nil
  · split
    · exact .v ‹_›
    · exact .any
theorem Val.ev {G : Ghost} {w : World} {tm : Array Value} (hs : St E.gl G H w) (hv : ValT G ts tm.toList) (x : Operand) : Val G (ev E ts x) (Act.eval { tmps := tm, defers := [] } x) := by
  cases x with
  | tmp t =>
    have h := hv.get t
    have h2 : Act.eval { tmps := tm, defers := [] } (.tmp t) = tm.toList.getD t Go.undef := by simp [Act.eval]
    rw [h2]
    simp only [Mc.ev]
    split
    · rename_i e
      rw [e] at h
      cases h with
      | fresh h _ => exact h
    · exact h
  | const v => exact .cst v
  | global g =>
    simp only [Mc.ev, Act.eval]
    split
    · rename_i a e
      obtain ⟨-, x, hx, hm⟩ := hs.gl g a e
      exact .cptr hx (fun i hi => by simpa using hm i hi)
    · exact .any
  | func f => exact .clo .nil .nil

/-- the branch -/
theorem AM.cond {c : Operand} {x y : Code} {t : Bool} (hc : Mc.ev E ts c = .v (.bool t)) (ht : t = true → AM E f m (.code x :: k) H ts Q) (hf : t = false → AM E f m (.code y :: k) H ts Q) :
    AM E f m (.code (.cond c x y) :: k) H ts Q := by
  intro hm hfx G w tm hs hv cs
  have he := Val.ev hs hv c
  rw [hc] at he
  have e : Act.eval { tmps := tm, defers := [] } c = .bool t := he.inv_v
  have h : AM E f m (.code (if t then x else y) :: k) H ts Q := by cases t <;> simp_all
  obtain ⟨e', w', fr, hp, hc', hfn, hl⟩ := h hm hfx G w tm hs hv cs
  exact ⟨e', w', fr, hp, .of_steps (.one (step_cond e)) hc', hfn, hl⟩


/-! types -/
theorem Val.one {G : Ghost} {a : AV} {x : Value} (h : Val G a x) (hs : a.stor = true) (ht : a.tree = false) : x.oneCell' = true := by
  cases h <;> first | rfl | (simp [AV.stor] at hs; done) | (simp [AV.tree] at ht; done) | skip
  · assumption
  · rename_i h _; cases h <;> rfl
theorem cells_of_one {x : Value} (h : x.oneCell' = true) : x.cells = #[x] := by
  cases x <;> first | rfl | simp [Value.oneCell'] at h
theorem Val.wd {G : Ghost} {a : AV} {x : Value} (h : Val G a x) (hs : a.stor = true) : x.cells.size = a.wd := by
  cases ht : a.tree
  · have h1 := h.one hs ht
    rw [cells_of_one h1]
    cases a <;> simp_all [AV.wd, AV.stor, AV.tree]
  · cases h <;> simp [AV.tree] at ht
    · rename_i h; simp [agg_cells, h.lens.2, AV.wd]
    · rename_i h; simp [agg_cells, h.length, AV.wd]
theorem Val.ones {G : Ghost} {a : AV} {x : Value} (h : Val G a x) (hs : a.stor = true) : Ones x.cells.toList := by
  cases ht : a.tree
  · have h1 := h.one hs ht
    rw [cells_of_one h1]
    intro c hc; simp at hc; subst hc; exact h1
  · cases h <;> simp [AV.tree] at ht
    · rename_i h; simpa [agg_cells] using ValN.ones h
    · rename_i h; simpa [agg_cells] using ValU.ones h
theorem Val.agg {G : Ghost} {a : AV} {x : Value} (h : Val G a x) (ht : a.tree = true) : x = .agg x.cells := by
  cases h <;> first | rfl | simp [AV.tree] at ht

theorem tsz_some {P : Program} {t : TypeId} {n : Nat} (h : tsz P t = some n) : ∃ i, P.info? t = some i ∧ i.size = n := by
  simpa [tsz, Option.map_eq_some_iff] using h
theorem tkind_some {P : Program} {t : TypeId} {b : Bool} (h : tkind P t = some b) : ∃ d, P.underlying t = some d ∧ isTree d = b := by
  simpa [tkind, Option.map_eq_some_iff] using h

theorem addr_add (b o j : Nat) : (⟨b, o, none⟩ : Addr).add j = ⟨b, o + j, none⟩ := by unfold Addr.add; split <;> simp_all

theorem run_isAgg' {P : Program} {w : World} {t : TypeId} {b : Bool} (h : tkind P t = some b) : (isAgg t).run P w = .ok b w := by
  obtain ⟨d, hd, rfl⟩ := tkind_some h
  simp only [isAgg, Sem.run_bind, run_underlying hd, Result.andThen]
  cases d <;> simp [isTree, pure]
theorem run_sizeOf' {P : Program} {w : World} {t : TypeId} {n : Nat} (h : tsz P t = some n) : (sizeOf t).run P w = .ok n w := by
  obtain ⟨i, hi, rfl⟩ := tsz_some h
  simp [sizeOf, typeInfo, hi, Sem.run_bind]

theorem run_loadVar' {P : Program} {w : World} {t : TypeId} {G : Ghost} {a : AV} {x : Value} {b o : Nat} (hf : Fits P t a) (hv : Val G a x)
    (hc : ∀ i v, x.cells.toList[i]? = some v → w.cell? ⟨b, o + i, none⟩ = some v) : (loadVar t ⟨b, o, none⟩).run P w = .ok x w := by
  have hw := hv.wd hf.stor
  simp only [loadVar, Sem.run_bind, run_isAgg' hf.kind, Result.andThen_ok]
  cases ht : a.tree
  · have h1 := cells_of_one (hv.one hf.stor ht)
    have := hc 0 x (by rw [h1]; rfl)
    rw [Nat.add_zero] at this
    simp [run_load, this]
  · have hl := run_loadCells_list (P := P) w ⟨b, o, none⟩ x.cells.toList (fun j v e => by rw [addr_add]; exact hc j v e)
    have e : x.cells.toList.length = a.wd := by simpa using hw
    rw [e] at hl
    simp only [if_true, Sem.run_bind, run_sizeOf' hf.size, Result.andThen_ok, hl]
    have := hv.agg ht
    simp [pure, ← this]

theorem run_storeVar' {P : Program} {w : World} {t : TypeId} {G : Ghost} {a : AV} {x : Value} {b o : Nat} (hf : Fits P t a) (hv : Val G a x)
    (hc : ∀ j, j < x.cells.toList.length → (w.cell? ⟨b, o + j, none⟩).isSome = true) (hfz : ∀ j, j < x.cells.toList.length → w.frozen? ⟨b, o + j, none⟩ = false) :
    (storeVar t ⟨b, o, none⟩ x).run P w = .ok () (w.setCells b o x.cells.toList) := by
  have hw := hv.wd hf.stor
  have hst := run_storeCells_cells (P := P) b o x.cells.toList 0 w (by simpa using hc) (by simpa using hfz) (hv.ones hf.stor)
  simp only [Nat.add_zero] at hst
  simp [storeVar, Sem.run_bind, run_sizeOf' hf.size, hw, hst]
end
end Go.Mc
