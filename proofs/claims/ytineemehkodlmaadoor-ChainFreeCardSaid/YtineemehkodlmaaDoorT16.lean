/- Abstract values and contracts of calls of the program: a part of the logic in which the claim is proved; it states nothing of the program by itself. -/
import Derived.Test.YtineemehkodlmaaDoorT15
import Derived.Orders
set_option linter.all false
namespace Go.Mc

/-- a thing that is not simplified -/
def Lock [b : Inhabited Prop] : Prop := b.default
theorem Lock.mk {p : Prop} (h : p) : @Lock ⟨p⟩ := h
theorem Lock.get {p : Prop} (h : @Lock ⟨p⟩) : p := h

/-- two ways on -/
def brk (t : Bool) [a : Inhabited Prop] [b : Inhabited Prop] : Prop := (t = true → a.default) ∧ (t = false → b.default)
theorem brk.mk {t : Bool} {a b : Prop} (h1 : t = true → a) (h2 : t = false → b) : @brk t ⟨a⟩ ⟨b⟩ := ⟨h1, h2⟩
theorem brk_true {a b : Prop} : @brk true ⟨a⟩ ⟨b⟩ = a := by simp [brk]
theorem brk_false {a b : Prop} : @brk false ⟨a⟩ ⟨b⟩ = b := by simp [brk]

/-- how an operation of a region is met: it reads (and is looked at again, or not), it lays a block, it acts -/
inductive DK where
  | l | q (again : Bool) | a | e

abbrev Chks := Nat → List Blk → Prop
abbrev Frs := Nat → Option AV
def setD (D : Chks) (i : Nat) (c : List Blk → Prop) : Chks := fun j H => if j = i then c H ∧ D j H else D j H
def wF (F : Frs) (d : Option Tmp) (z : Option AV) : Frs := fun j => if d = some j then z else F j

def Chk (E : Prg) (ts : List AV) (op : Op) (r : AV) (H : List Blk) : Prop :=
  match sop E H ts op with
  | some (p, H', r') => p ∧ H' = H ∧ r' = r
  | none => False

def rech (D : Chks) (H : List Blk) : List Nat → Prop
  | [] => True
  | y :: l => D y H ∧ rech D H l

/-- a store through a temporary that has a new block -/
def frStore (F : Frs) : Op → Option (TypeId × Nat × AV × Operand)
  | .store t (.tmp d) x => match F d with
    | some z => some (t, d, z, x)
    | none => none
  | _ => none

abbrev DIt := Nat × DK × List Nat
abbrev DSt := Chks → Frs → List Blk → List AV → Prop

def dAct (E : Prg) (Q : List Blk → Res → Prop) (K : DSt) (i : Nat) (o : Oper) (pend : List Nat) (D : Chks) (F : Frs) (H : List Blk) (ts : List AV) : DK → Prop
  | .q again => match sop E H ts o.op with
    | some (p, H', r) => H' = H ∧ p ∧ K (if again then setD D i (Chk E ts o.op r) else D) (wF F o.dst none) H (putT ts o.dst r)
    | none => False
  | .l => match sop E H ts o.op with
    | some (p, H', r) => H' = H ∧ p ∧ K D (wF F o.dst none) H (putT ts o.dst r)
    | none => False
  | .a => match o.op, o.dst with
    | .alloc t, some d => match E.zv t with
      | some z => d < ts.length ∧ K D (wF F (some d) (some z)) H (putT ts (some d) .any)
      | none => False
    | _, _ => False
  | .e => match frStore F o.op with
    | some (t, d, z, x) => d < ts.length ∧ o.dst = none ∧ (ev E ts x).stor = true ∧ Fits E.P t (ev E ts x) ∧ z.stor = true ∧ z.wd = (ev E ts x).wd ∧ (ev E ts x).lt H.length ∧ rech D (H ++ [.obj (ev E ts x)]) pend ∧
        K D (wF F (some d) none) (H ++ [.obj (ev E ts x)]) (putT ts (some d) (.ptr H.length [] 0))
    | none => match sop E H ts o.op with
      | some (p, H', r) => p ∧ rech D H' pend ∧ K D (wF F o.dst none) H' (putT ts o.dst r)
      | none => match calleeOf E ts o.op with
        | some (g, avs) => ACalls E g avs H (fun H' r => match r with
          | .ret a => @Lock ⟨rech D H' pend ∧ K D (wF F o.dst none) H' (putT ts o.dst a)⟩
          | .pan a => Q H' (.pan a))
        | none => False

def dOne (E : Prg) (Q : List Blk → Res → Prop) (ops : Array Oper) (K : DSt) (x : DIt) : DSt := fun D F H ts =>
  match ops[x.1]? with
  | none => False
  | some o => match gdOf ops ts o.guard with
    | none => False
    | some g => @brk g ⟨dAct E Q K x.1 o x.2.2 D F H ts x.2.1⟩ ⟨K D (wF F o.dst none) H (putT ts o.dst .undef)⟩

/-- the operations of a region that draws its order, in an order of ours -/
def AXl (E : Prg) (Q : List Blk → Res → Prop) (ops : Array Oper) (K : List Blk → List AV → Prop) : List DIt → DSt
  | [] => fun _ _ H ts => K H ts
  | x :: l => dOne E Q ops (AXl E Q ops K l) x

/-! what an operation looks at and what it writes -/
def wrs (o : Oper) : List Tmp := o.dst.toList ++ (match o.op with | .store _ (.tmp d) _ => [d] | _ => [])
def indep (ops : Array Oper) (y x : Oper) : Bool :=
  (wrs y).all (fun d => !(x.looksAt ops).contains d && !(wrs x).contains d) && (wrs x).all (fun d => !(y.looksAt ops).contains d)

/-- does what it reads not depend on the heap? -/
def light : Op → Bool
  | .move _ | .assign _ | .pick _ _ _ | .binOp _ _ _ _ _ | .unOp _ _ _ | .extract _ _ | .fieldAddr _ _ _ | .field _ _ _ | .indexAddr _ _ _ | .index _ _ _ | .convert _ _ _ | .nilCheck _ | .makeInterface _ _ | .makeFunc _ _ _ | .build _ _ | .buildSlice _ _ _ => true
  | .call c => match c.callee with
    | .builtin .len => true
    | _ => false
  | _ => false
theorem lft_light {H : List Blk} {o : Option (Prop × AV)} {p : Prop} {r : AV} (h : lft H o = some (p, H, r)) (H2 : List Blk) : lft H2 o = some (p, H2, r) := by
  rw [(lft_some h).1]; rfl
theorem sop_light {E : Prg} {H : List Blk} {ts : List AV} {op : Op} {p : Prop} {r : AV} (hl : light op = true) (h : sop E H ts op = some (p, H, r)) (H2 : List Blk) : sop E H2 ts op = some (p, H2, r) := by
  cases op <;> simp only [light, Bool.false_eq_true] at hl <;> simp only [sop] at h ⊢
  case buildSlice t n ps =>
    unfold sopSlice at h ⊢
    split at h
    · split at h
      · split at h
        · simp only [Option.some.injEq, Prod.mk.injEq] at h
          simp [h]
        · simp at h
      · simp at h
    · simp at h
  case convert s d x =>
    have hconv : sopConvert E H s d (ev E ts x) = some (p, H, r) → sopConvert E H2 s d (ev E ts x) = some (p, H2, r) := by
      intro h
      unfold sopConvert at h ⊢
      split at h
      · rename_i e
        split at h
        · simp only [Option.some.injEq, Prod.mk.injEq] at h
          have := congrArg List.length h.2.1
          simp at this
        · exact lft_light h H2
      · exact lft_light h H2
    split at h
    · split at h
      · rename_i q
        rw [if_pos q]
        simp only [Option.some.injEq, Prod.mk.injEq] at h ⊢
        exact ⟨h.1, trivial, h.2.2⟩
      · rename_i q
        rw [if_neg q]
        exact hconv h
    · exact hconv h
  case makeFunc f fs cs =>
    cases f <;> simp only [reduceCtorEq, Option.some.injEq, Prod.mk.injEq] at h ⊢
    exact ⟨h.1, trivial, h.2.2⟩
  case call c =>
    split at h
    · rename_i b e
      rw [e] at hl
      cases b <;> simp only [Bool.false_eq_true] at hl
      unfold sopBuiltin at h ⊢
      split at h
      all_goals first | (simp at h; done) | skip
      all_goals first | exact lft_light h H2 | (exfalso; simp_all; done)
    · simp at h
  all_goals first | exact lft_light h H2 | (simp only [Option.some.injEq, Prod.mk.injEq] at h ⊢; exact ⟨h.1, trivial, h.2.2⟩)

def swapOk (ops : Array Oper) (y x : DIt) : Bool :=
  match ops[y.1]?, ops[x.1]? with
  | some oy, some ox => indep ops oy ox && (match y.2.1, x.2.1 with
    | .l, _ => light oy.op
    | .q g, .e => g && x.2.2.contains y.1
    | .q _, _ => true
    | .a, _ => true
    | .e, _ => false)
  | _, _ => false

theorem rech_sub {D : Chks} {i : Nat} {c : List Blk → Prop} {H : List Blk} : ∀ {l}, rech (setD D i c) H l → rech D H l ∧ (i ∈ l → c H)
  | [], _ => ⟨trivial, fun h => by simp at h⟩
  | y :: l, h => by
    obtain ⟨h1, h2⟩ := rech_sub h.2
    refine ⟨⟨?_, h1⟩, fun hm => ?_⟩
    · have := h.1; unfold setD at this; split at this
      · exact this.2
      · exact this
    · rcases List.mem_cons.1 hm with rfl | hm
      · have := h.1; simp only [setD, if_true] at this; exact this.1
      · exact h2 hm
theorem setD_comm {D : Chks} {i j : Nat} {c d : List Blk → Prop} (h : i ≠ j) : setD (setD D i c) j d = setD (setD D j d) i c := by
  funext y H; unfold setD; by_cases h1 : y = i <;> by_cases h2 : y = j <;> simp_all
theorem wF_comm {F : Frs} {d e : Option Tmp} {a b : Option AV} (h : ∀ j, d = some j → e ≠ some j) : wF (wF F d a) e b = wF (wF F e b) d a := by
  funext j; unfold wF; by_cases h1 : d = some j <;> by_cases h2 : e = some j <;> simp_all
theorem putT_comm {ts : List AV} {d e : Option Tmp} {a b : AV} (h : ∀ j, d = some j → e ≠ some j) : putT (putT ts d a) e b = putT (putT ts e b) d a := by
  cases d <;> cases e <;> simp [putT]
  rename_i d e
  exact (List.set_comm _ _ (fun q => h d rfl (by rw [q])))
theorem putT_length (ts : List AV) (d : Option Tmp) (a : AV) : (putT ts d a).length = ts.length := by cases d <;> simp [putT]
theorem putT_get {ts : List AV} {d : Option Tmp} {a : AV} {j : Nat} (h : d ≠ some j) : (putT ts d a).getD j .undef = ts.getD j .undef := by
  cases d with
  | none => rfl
  | some d => simp only [putT, List.getD_eq_getElem?_getD]; rw [List.getElem?_set_ne (fun q => h (by rw [q]))]

/-- two rows of temporaries agree at what an operation looks at -/
def Agr (ops : Array Oper) (o : Oper) (ts ts' : List AV) : Prop := ∀ d ∈ o.looksAt ops, ts.getD d .undef = ts'.getD d .undef
theorem Agr.put {ops : Array Oper} {o : Oper} {ts : List AV} {d : Option Tmp} {a : AV} (h : ∀ j, d = some j → j ∉ o.looksAt ops) : Agr ops o ts (putT ts d a) :=
  fun j hj => (putT_get fun q => h j q hj).symm
theorem Agr.symm {ops : Array Oper} {o : Oper} {ts ts' : List AV} (h : Agr ops o ts ts') : Agr ops o ts' ts := fun d hd => (h d hd).symm
theorem Agr.trans {ops : Array Oper} {o : Oper} {a b c : List AV} (h : Agr ops o a b) (k : Agr ops o b c) : Agr ops o a c := fun d hd => (h d hd).trans (k d hd)

section
variable {E : Prg} {ops : Array Oper} {o : Oper} {ts ts' : List AV} {H : List Blk}

theorem Agr.ev (h : Agr ops o ts ts') : ∀ x ∈ o.op.operands, Mc.ev E ts x = Mc.ev E ts' x := by
  intro x hx
  cases x with
  | tmp t =>
    have q := h t (List.mem_append_left _ (List.mem_filterMap.2 ⟨.tmp t, by simpa using hx, rfl⟩))
    simp only [Mc.ev]; rw [q]
  | _ => rfl
theorem Agr.fr (h : Agr ops o ts ts') : ∀ x ∈ o.op.operands, frOf ts x = frOf ts' x := by
  intro x hx
  cases x with
  | tmp t =>
    have q := h t (List.mem_append_left _ (List.mem_filterMap.2 ⟨.tmp t, by simpa using hx, rfl⟩))
    simp only [frOf]; rw [q]
  | _ => rfl
theorem Agr.gd (h : Agr ops o ts ts') : gdOf ops ts o.guard = gdOf ops ts' o.guard := by
  unfold gdOf
  split
  · rfl
  · rename_i j want e
    split
    · rename_i d hd
      rw [h d (List.mem_append_right _ (by simp [e, hd]))]
    · rfl
theorem ev_map {l : List Operand} (h : ∀ x ∈ l, Mc.ev E ts x = Mc.ev E ts' x) : l.map (Mc.ev E ts) = l.map (Mc.ev E ts') := List.map_congr_left h
theorem ev_prs {l : List (Nat × Operand)} (h : ∀ x ∈ l.map (·.2), Mc.ev E ts x = Mc.ev E ts' x) : (l.map fun q => (q.1, Mc.ev E ts q.2)) = l.map fun q => (q.1, Mc.ev E ts' q.2) :=
  List.map_congr_left fun q hq => by rw [h q.2 (List.mem_map.2 ⟨q, hq, rfl⟩)]
theorem ev_opt {l : Option Operand} (h : ∀ x ∈ l, Mc.ev E ts x = Mc.ev E ts' x) : l.map (Mc.ev E ts) = l.map (Mc.ev E ts') := by
  cases l with
  | none => rfl
  | some x => simp [h x rfl]

theorem sop_congr {op : Op} (h : ∀ x ∈ op.operands, Mc.ev E ts x = Mc.ev E ts' x) (hf : ∀ x ∈ op.operands, frOf ts x = frOf ts' x) : sop E H ts op = sop E H ts' op := by
  cases op <;> simp only [Op.operands] at h hf <;> simp only [sop]
  case convert s d x => rw [h x (by simp), hf x (by simp)]
  case build t ps => rw [ev_prs fun x hx => h x (by simpa using hx)]
  case buildSlice t n ps => rw [ev_prs fun x hx => h x (by simpa using hx)]
  case makeFunc fn fs cs =>
    cases fn
    · simp only
      rw [ev_map fun x hx => h x (by simp at hx; simp [hx]), ev_map fun x hx => h x (by simp at hx; simp [hx])]
    all_goals rfl
  case slice t x lo hi mx =>
    rw [h x (by simp), ev_opt (l := lo) fun y hy => h y (by cases hy; simp), ev_opt (l := hi) fun y hy => h y (by cases hy; simp), ev_opt (l := mx) fun y hy => h y (by cases hy; simp)]
  case call c =>
    have ha : ∀ x ∈ c.args.toList, Mc.ev E ts x = Mc.ev E ts' x := fun x hx => h x (by simp [Call.operands] at hx ⊢; simp [hx])
    split
    · rename_i b e
      unfold sopBuiltin
      split
      all_goals first | rfl | skip
      all_goals
        rename_i e1 e2
        rw [e2] at ha
        simp only [List.mem_cons, List.not_mem_nil, or_false, forall_eq_or_imp, forall_eq] at ha
        simp [ha]
    · rfl
  all_goals first | rfl | (simp_all; done)

theorem callee_congr {op : Op} (h : ∀ x ∈ op.operands, Mc.ev E ts x = Mc.ev E ts' x) : calleeOf E ts op = calleeOf E ts' op := by
  cases op <;> simp only [calleeOf]
  case call c =>
    have ha : ∀ x ∈ c.args.toList, Mc.ev E ts x = Mc.ev E ts' x := fun x hx => h x (by simp [Op.operands, Call.operands] at hx ⊢; simp [hx])
    split
    · rename_i x e
      rw [h x (by simp [Op.operands, Call.operands, e]), ev_map ha]
    · rfl
theorem chk_congr {op : Op} {r : AV} (h : ∀ x ∈ op.operands, Mc.ev E ts x = Mc.ev E ts' x) (hf : ∀ x ∈ op.operands, frOf ts x = frOf ts' x) : Chk E ts op r = Chk E ts' op r := by
  funext H; unfold Chk; rw [sop_congr h hf]
end
end Go.Mc
