/- Abstract values and contracts of calls of the program: a part of the logic in which the claim is proved; it states nothing of the program by itself. -/
import Derived.Test.YtineemehkodlmaaDoorT20
set_option linter.all false
namespace Go.Mc

/-- is a slice nil? -/
def nilCmp (E : Prg) (ts : List AV) : Op → Option (Bool × TypeId × List AV)
  | .binOp op t x (.const (.slice none _ _)) _ => match op, ev E ts x with
    | .eql, .sl _ as _ => some (true, t, as)
    | .eql, .sla _ as _ => some (true, t, as)
    | .neq, .sl _ as _ => some (false, t, as)
    | .neq, .sla _ as _ => some (false, t, as)
    | _, _ => none
  | _ => none
def isSl : Option Ix → Bool
  | some (.slice _ _) => true
  | _ => false

theorem val_nil {G : Ghost} {a : AV} {x : Value} {as : List AV} (ha : (∃ sz cl, a = .sl sz as cl) ∨ ∃ sz k, a = .sla sz as k) (h : Val G a x) : (x = .slice none 0 0 ∧ as = []) ∨ ∃ ad n c, x = .slice (some ad) n c := by
  have key : ∀ {sz cl} {x : Value}, Val G (.sl sz as cl) x → (x = .slice none 0 0 ∧ as = []) ∨ ∃ ad n c, x = .slice (some ad) n c := by
    intro sz cl x h
    cases h with
    | nil => exact .inl ⟨rfl, rfl⟩
    | sl _ _ _ _ => exact .inr ⟨_, _, _, rfl⟩
  rcases ha with ⟨sz, cl, rfl⟩ | ⟨sz, k, rfl⟩
  · exact key h
  · cases h with
    | sla h _ => exact key h

theorem run_eqSlice {P : Program} {w : World} {t el : TypeId} (hund : P.underlying t = some (.slice el)) (a1 a2 : Nat) :
    (Go.Op.equal t (.slice none 0 0) (.slice none a1 a2)).run P w = .ok true w ∧ ∀ ad n c, (Go.Op.equal t (.slice (some ad) n c) (.slice none a1 a2)).run P w = .ok false w := by
  have e : ∀ x y, Go.Op.equal t x y = Go.Op.equalIn (9999 + 1) t x y := fun _ _ => rfl
  constructor
  · rw [e, Go.Op.equalIn]
    simp only [Sem.run_bind, run_underlying hund, Result.andThen_ok]
    rfl
  · intro ad n c
    rw [e, Go.Op.equalIn]
    simp only [Sem.run_bind, run_underlying hund, Result.andThen_ok]
    rfl

theorem AM.opNil {E : Prg} {f : FuncId} {m : Nat} {k : List Item} {H : List Blk} {ts : List AV} {Q : List Blk → Res → Prop} {ops : Array Oper} {i : Nat} {rest : List Nat} {o : Oper} {want : Bool} {t : TypeId} {as : List AV} (ho : ops[i]? = some o) (hg : gdOf ops ts o.guard = some true)
    (h : nilCmp E ts o.op = some (want, t, as)) (ht : isSl (ixk E.P t) = true)
    (hk : ∀ b : Bool, (b = true → as = []) → AM E f m (.inRegion ops rest :: k) H (putT ts o.dst (.v (.bool (b == want)))) Q) : AM E f m (.inRegion ops (i :: rest) :: k) H ts Q := by
  intro hm hfx G w tm hs hv cs
  obtain ⟨el, sz, hix⟩ : ∃ e sz, ixk E.P t = some (.slice e sz) := by
    unfold isSl at ht
    split at ht
    · exact ⟨_, _, ‹_›⟩
    · simp at ht
  have hund := (ixk_slice hix).1
  have key : ∃ b : Bool, (b = true → as = []) ∧ (execOp (Act.eval { tmps := tm, defers := [] }) o).run E.P w = .ok (.value (.bool (b == want))) w := by
    obtain ⟨dst, op, ty, pos, after, guard⟩ := o
    simp only at h ⊢
    unfold nilCmp at h
    split at h
    · rename_i op t' x a1 a2 yt
      have hx := Val.ev (E := E) hs hv x
      have hcase : ∀ {a : AV}, ev E ts x = a → ((∃ sz cl, a = .sl sz as cl) ∨ ∃ sz k, a = .sla sz as k) → t' = t → (op = .eql ∧ want = true ∨ op = .neq ∧ want = false) →
          ∃ b : Bool, (b = true → as = []) ∧ (execOp (Act.eval { tmps := tm, defers := [] }) ⟨dst, .binOp op t' x (.const (.slice none a1 a2)) yt, ty, pos, after, guard⟩).run E.P w = .ok (.value (.bool (b == want))) w := by
        intro a e ha ht' hop
        subst ht'
        rw [e] at hx
        simp only [execOp]
        generalize Act.eval { tmps := tm, defers := [] } x = xv at hx
        rcases val_nil ha hx with ⟨rfl, hn⟩ | ⟨ad, n, c, rfl⟩
        · refine ⟨true, fun _ => hn, ?_⟩
          have he := (run_eqSlice (w := w) hund a1 a2).1
          rcases hop with ⟨rfl, rfl⟩ | ⟨rfl, rfl⟩ <;> simp [Act.eval, eqGuard, Go.binOp, Sem.run_bind, he, pure]
        · refine ⟨false, fun q => by simp at q, ?_⟩
          have he := (run_eqSlice (w := w) hund a1 a2).2 ad n c
          rcases hop with ⟨rfl, rfl⟩ | ⟨rfl, rfl⟩ <;> simp [Act.eval, eqGuard, Go.binOp, Sem.run_bind, he, pure]
      split at h
      · rename_i e
        simp only [Option.some.injEq, Prod.mk.injEq] at h
        obtain ⟨rfl, rfl, rfl⟩ := h
        exact hcase e (.inl ⟨_, _, rfl⟩) rfl (.inl ⟨rfl, rfl⟩)
      · rename_i e
        simp only [Option.some.injEq, Prod.mk.injEq] at h
        obtain ⟨rfl, rfl, rfl⟩ := h
        exact hcase e (.inr ⟨_, _, rfl⟩) rfl (.inl ⟨rfl, rfl⟩)
      · rename_i e
        simp only [Option.some.injEq, Prod.mk.injEq] at h
        obtain ⟨rfl, rfl, rfl⟩ := h
        exact hcase e (.inl ⟨_, _, rfl⟩) rfl (.inr ⟨rfl, rfl⟩)
      · rename_i e
        simp only [Option.some.injEq, Prod.mk.injEq] at h
        obtain ⟨rfl, rfl, rfl⟩ := h
        exact hcase e (.inr ⟨_, _, rfl⟩) rfl (.inr ⟨rfl, rfl⟩)
      · simp at h
    · simp at h
  obtain ⟨b, hb, hrun⟩ := key
  have hp := ValT.put (x := .bool (b == want)) hv (.v rfl) o.dst
  obtain ⟨e, w2, fr, hpost, hc, hfn, hl⟩ := hk b hb hm hfx G w _ hs hp.1 cs
  refine ⟨e, w2, fr, hpost, .of_steps (.one ?_) hc, hfn, hl⟩
  have hst := step_op_value (P := E.P) (b := fr0 f) (a := { tmps := tm, defers := [] }) (k := k) (cs := cs) (rest := rest) ho (gd_ok hv hg) (.inl hrun)
  exact hst.trans (by rw [put_eq])


/-- does the walk stop ahead of this region? -/
def isStop : Option (List DIt × List (List Nat)) → Bool
  | some ([], _) => true
  | _ => false
def stopAt (r : Nat) (pl : Nat → Option (List DIt × List (List Nat))) : Nat → Option (List DIt × List (List Nat)) := fun id => if id = r then some ([], []) else pl id

/-- loops are unrolled -/
def unr (pl : Nat → Option (List DIt × List (List Nat))) : Nat → Option (List DIt × List (List Nat)) := stopAt 9999 pl

/-- the rest of a body, not looked into -/
def KLock (H : List Blk) (ts : List AV) [b : Inhabited (List Blk → List AV → Prop)] : Prop := b.default H ts

/-- a body is walked until the next call, branch, loop or draw -/
def AW (E : Prg) (f : FuncId) (m : Nat) (rs : List ResultVar) (Q : List Blk → Res → Prop) (pl : Nat → Option (List DIt × List (List Nat))) : Nat → List Item → List Blk → List AV → Prop
  | 0, k, H, ts => AM E f m k H ts Q
  | n + 1, .code .skip :: k, H, ts => AW E f m rs Q pl n k H ts
  | n + 1, .code (.label _) :: k, H, ts => AW E f m rs Q pl n k H ts
  | n + 1, .code (.seq a b) :: k, H, ts => AW E f m rs Q pl n (.code a :: .code b :: k) H ts
  | n + 1, .code (.loop c) :: k, H, ts => if isStop (pl 9999) = true then AW E f m rs Q pl n (.code c :: .inLoop c :: k) H ts else @Lock ⟨AM E f m (.code (.loop c) :: k) H ts Q⟩
  | n + 1, .inLoop c :: k, H, ts => if isStop (pl 9999) = true then AW E f m rs Q pl n (.code c :: .inLoop c :: k) H ts else @Lock ⟨AM E f m (.inLoop c :: k) H ts Q⟩
  | n + 1, .code (.region id ops true) :: k, H, ts => match pl id with
    | some (plan, bef) => @Lock ⟨planOk ops plan bef = true⟩ ∧ AXl E Q ops (fun H ts => @KLock H ts ⟨AW E f m rs Q pl n k⟩) plan (fun _ _ => True) (fun _ => none) H ts
    | none => @Lock ⟨AM E f m (.code (.region id ops true) :: k) H ts Q⟩
  | n + 1, .code (.region id ops false) :: k, H, ts => if isStop (pl id) = true then @Lock ⟨AM E f m (.code (.region id ops false) :: k) H ts Q⟩ else AW E f m rs Q pl n (.inRegion ops (List.range ops.size) :: k) H ts
  | n + 1, .code (.cond c x y) :: k, H, ts => match ev E ts c with
    | .v (.bool t) => @brk t ⟨AW E f m rs Q pl n (.code x :: k) H ts⟩ ⟨AW E f m rs Q pl n (.code y :: k) H ts⟩
    | _ => False
  | n + 1, .code (.block id c) :: k, H, ts => AW E f m rs Q pl n (.code c :: .inBlock id :: k) H ts
  | n + 1, .code (.exit id) :: k, H, ts => match exitTo id k with
    | some k' => AW E f m rs Q pl n k' H ts
    | none => False
  | _ + 1, .code .ret :: _, H, ts => match Rets E H ts rs with
    | some (p, l) => p ∧ Q H (.ret (oneOf l))
    | none => False
  | _ + 1, [], H, ts => match Rets E H ts rs with
    | some (p, l) => p ∧ Q H (.ret (oneOf l))
    | none => False
  | n + 1, .inBlock _ :: k, H, ts => AW E f m rs Q pl n k H ts
  | n + 1, .inRegion _ [] :: k, H, ts => AW E f m rs Q pl n k H ts
  | n + 1, .inRegion ops (i :: rest) :: k, H, ts => match ops[i]? with
    | none => False
    | some o => match gdOf ops ts o.guard with
      | none => AM E f m (.inRegion ops (i :: rest) :: k) H ts Q
      | some g => @brk g ⟨match nilCmp E ts o.op with
        | some (want, t, as) => isSl (ixk E.P t) = true ∧ ∀ b : Bool, (b = true → as = []) → AW E f m rs Q pl n (.inRegion ops rest :: k) H (putT ts o.dst (.v (.bool (b == want))))
        | none => match sop E H ts o.op with
          | some (p, H', r) => p ∧ AW E f m rs Q pl n (.inRegion ops rest :: k) H' (putT ts o.dst r)
          | none => match calleeOf E ts o.op with
            | some (c, avs) => ACalls E c avs H (fun H' r => match r with | .ret a => @Lock ⟨AW E f m rs Q pl n (.inRegion ops rest :: k) H' (putT ts o.dst a)⟩ | .pan a => Q H' (.pan a))
            | none => @Lock ⟨AM E f m (.inRegion ops (i :: rest) :: k) H ts Q⟩⟩ ⟨AW E f m rs Q pl n (.inRegion ops rest :: k) H (putT ts o.dst .undef)⟩
  | _ + 1, k, H, ts => @Lock ⟨AM E f m k H ts Q⟩

theorem AW.sound {E : Prg} {f : FuncId} {m : Nat} {rs : List ResultVar} {Q : List Blk → Res → Prop} (pl : Nat → Option (List DIt × List (List Nat))) {fn : Func} (hmix : E.P.follows .mixedOrders = true) (hf : E.P.funcs[f]? = some fn) (hrs : fn.results.toList = rs) :
    ∀ (n : Nat) {k : List Item} {H : List Blk} {ts : List AV}, AW E f m rs Q pl n k H ts → AM E f m k H ts Q := by
  intro n
  induction n with
  | zero => intro k H ts h; simpa only [AW] using h
  | succ n ih =>
    intro k H ts h
    match k with
    | .code .skip :: k => simp only [AW] at h; exact .skip (ih h)
    | .code (.label _) :: k => simp only [AW] at h; exact .label (ih h)
    | .code (.seq a b) :: k => simp only [AW] at h; exact .seq (ih h)
    | .code (.region id ops false) :: k =>
      simp only [AW] at h
      split at h
      · exact h
      · exact .region (ih h)
    | .code (.region id ops true) :: k =>
      simp only [AW] at h
      split at h
      · exact AM.draw (K := fun H ts => @KLock H ts ⟨AW E f m rs Q pl n k⟩) hmix h.1 (fun _ _ q => ih q) h.2
      · exact h
    | .code (.cond c x y) :: k =>
      simp only [AW] at h
      split at h
      · rename_i t e; exact .cond e (fun q => ih (h.1 q)) (fun q => ih (h.2 q))
      · exact h.elim
    | .code (.block id c) :: k => simp only [AW] at h; exact .block (ih h)
    | .code (.exit id) :: k =>
      simp only [AW] at h
      split at h
      · rename_i e; exact .exit e (ih h)
      · exact h.elim
    | .code .ret :: k =>
      simp only [AW] at h
      split at h
      · rename_i p l e; exact (AM.ret hf (by rw [hrs]; exact e) h.1 h.2).1
      · exact h.elim
    | [] =>
      simp only [AW] at h
      split at h
      · rename_i p l e; exact (AM.ret (k := []) hf (by rw [hrs]; exact e) h.1 h.2).2
      · exact h.elim
    | .inBlock _ :: k => simp only [AW] at h; exact .inBlock (ih h)
    | .inRegion ops [] :: k => simp only [AW] at h; exact .regionEnd (ih h)
    | .inRegion ops (i :: rest) :: k =>
      simp only [AW] at h
      split at h
      · exact h.elim
      · rename_i o ho
        split at h
        · exact h
        · rename_i g hg
          cases g with
          | true =>
            rw [brk_true] at h
            split at h
            · rename_i e
              exact AM.opNil ho hg e h.1 fun b hb => ih (h.2 b hb)
            split at h
            · rename_i p H' r e; exact .op ho hg e h.1 (ih h.2)
            · split at h
              · rename_i e
                refine .call ho hg e (ACalls.mono h fun H' r hr => ?_)
                cases r with
                | ret a => exact ih hr
                | pan a => exact hr
              · exact h
          | false => exact .opSkip ho hg (ih (h.2 rfl))
    | .code (.loop c) :: k =>
      simp only [AW] at h
      split at h
      · exact AM.loop (ih h)
      · exact h
    | .code (.rangeFunc _ _ _ _) :: k => simpa only [AW, Lock] using h
    | .code (.scope _) :: k => simpa only [AW, Lock] using h
    | .code (.goto _) :: k => simpa only [AW, Lock] using h
    | .code (.refuse _) :: k => simpa only [AW, Lock] using h
    | .inLoop c :: k =>
      simp only [AW] at h
      split at h
      · exact AM.inLoop (ih h)
      · exact h
    | .inScope _ :: k => simpa only [AW, Lock] using h
    | .inRangeFunc _ :: k | .endRangeFunc _ :: k | .beginRound :: k | .call _ _ _ _ :: k | .extern _ _ :: k => simpa only [AW, Lock] using h

/-- a call whose contract is known -/
theorem ACalls.use {E : Prg} {g : FuncId} {avs : List AV} {H H' : List Blk} {r : AV} {K : List Blk → AV → Prop} {Q : List Blk → Res → Prop} (hc : ACalls E g avs H (Gives H' r)) (hk : K H' r) :
    ACalls E g avs H (fun H' r => match r with | .ret a => @Lock ⟨K H' a⟩ | .pan a => Q H' (.pan a)) := by
  refine hc.mono fun H2 r2 h => ?_
  obtain ⟨rfl, rfl⟩ := h
  exact hk
theorem Lock.ok {b : Bool} (h : b = true) : @Lock ⟨b = true⟩ := h
end Go.Mc
