/- Abstract values and contracts of calls of the program: a part of the logic in which the claim is proved; it states nothing of the program by itself. -/
import Derived.Test.YtineemehkodlmaaDoorT11
set_option linter.all false
namespace Go.Mc

/-- '==' at a type, of these two values, gives r -/
def EqOk (P : Program) (t : TypeId) (a b : AV) (r : Bool) : Prop :=
  ∀ (G : Ghost) (w : World) (x y : Value) (xo yo : Operand), Val G a x → Val G b y →
    ((do eqGuard .eql t xo yo x y; Go.binOp .eql t x y) : Sem Value).run P w = .ok (.bool r) w ∧ ((do eqGuard .neq t xo yo x y; Go.binOp .neq t x y) : Sem Value).run P w = .ok (.bool !r) w

/-- the leaves of two values are equal -/
def leafEq : AV → AV → Bool
  | .v (.int _ a), .v (.int _ b) => a == b
  | .v (.bool a), .v (.bool b) => a == b
  | .v (.string a), .v (.string b) => a.toList == b.toList
  | _, _ => false
def eqB (a b : AV) : Bool := (a.leaves.length == b.leaves.length) && ((a.leaves.zip b.leaves).all fun q => leafEq q.1 q.2)

def lopBin (E : Prg) (op : BinOp) (t : TypeId) (x y : AV) : Option (Prop × AV) :=
  match binAV op x y with
  | some r => some r
  | none => match op with
    | .eql => some (EqOk E.P t x y (eqB x y), .v (.bool (eqB x y)))
    | .neq => some (EqOk E.P t x y (eqB x y), .v (.bool (!eqB x y)))
    | _ => none

def lft (H : List Blk) : Option (Prop × AV) → Option (Prop × List Blk × AV)
  | some (p, r) => some (p, H, r)
  | none => none

def sopConvert (E : Prg) (H : List Blk) (s d : TypeId) (x : AV) : Option (Prop × List Blk × AV) :=
  match x with
  | .v (.string b) => match ixk E.P d with
    | some (.slice e _) => some (E.P.underlying s ≠ none ∧ E.P.underlying e = some (.int .u8), H ++ [.tok 1 (bytesAV b).length], .sla 1 (bytesAV b) H.length)
    | _ => lft H (lopConvert E d s x)
  | _ => lft H (lopConvert E d s x)

/-- a new literal that a temporary has -/
def frOf (ts : List AV) : Operand → Option (List AV)
  | .tmp t => match ts.getD t .undef with
    | .fresh (.sl 1 l true) => some l
    | _ => none
  | _ => none

def sopBuiltin (E : Prg) (H : List Blk) (ts : List AV) (b : Builtin) (tys : List TypeId) (args : List Operand) : Option (Prop × List Blk × AV) :=
  match b, tys, args with
  | .len, [t], [x] => lft H (lopLen E t (ev E ts x))
  | .append, [t, t'], [s, x] => sopAppend E H t t' (ev E ts s) (ev E ts x)
  | .copy, [t, _], [s, x] => sopCopy E H t (ev E ts s) (ev E ts x)
  | .min, _, [x, y] => lft H (lopMinMax false (ev E ts x) (ev E ts y))
  | .max, _, [x, y] => lft H (lopMinMax true (ev E ts x) (ev E ts y))
  | _, _, _ => none

mutual
/-- tokens that are younger than k are forgotten -/
def AV.fg (k : Nat) : AV → AV
  | .sla sz «as» j => if j < k then .sla sz «as» j else .sl sz «as» false
  | .node ws «as» => .node ws (AV.fgL k «as»)
  | a => a
def AV.fgL (k : Nat) : List AV → List AV
  | [] => []
  | a :: «as» => AV.fg k a :: AV.fgL k «as»
end
mutual
theorem AV.fg_val {G : Ghost} {k : Nat} : ∀ {a : AV} {x : Value}, Val G a x → Val G (a.fg k) x
  | _, _, .undef => by simp only [AV.fg]; exact .undef
  | _, _, .v h => by simp only [AV.fg]; exact .v h
  | _, _, .node h => by simp only [AV.fg]; exact .node (AV.fgL_val h)
  | _, _, .arr h => by simp only [AV.fg]; exact .arr h
  | _, _, .nil => by simp only [AV.fg]; exact .nil
  | _, _, .sl h m c d => by simp only [AV.fg]; exact .sl h m c d
  | _, _, .sla h q => by
    simp only [AV.fg]
    split
    · exact .sla h q
    · exact h
  | _, _, .asl h c => by simp only [AV.fg]; exact .asl h c
  | _, _, .ptr h => by simp only [AV.fg]; exact .ptr h
  | _, _, .cptr h m => by simp only [AV.fg]; exact .cptr h m
  | _, _, .clo h q => by simp only [AV.fg]; exact .clo h q
  | _, _, .ifc h => by simp only [AV.fg]; exact .ifc h
  | _, _, .tup h => by simp only [AV.fg]; exact .tup h
  | _, _, .any => by simp only [AV.fg]; exact .any
  | _, _, .fresh h q => by simp only [AV.fg]; exact .fresh h q
theorem AV.fgL_val {G : Ghost} {k : Nat} : ∀ {ws : List Nat} {«as» : List AV} {cs : List Value}, ValN G ws «as» cs → ValN G ws (AV.fgL k «as») cs
  | _, _, _, .nil => by simp only [AV.fgL]; exact .nil
  | _, _, _, .cons h e t => by simp only [AV.fgL]; exact .cons (AV.fg_val h) e (AV.fgL_val t)
end
def fgAt : AV → AV → AV
  | .ptr k _ _, x => x.fg k
  | _, x => x
theorem fgAt_val {G : Ghost} {p a : AV} {x : Value} (h : Val G a x) : Val G (fgAt p a) x := by
  unfold fgAt
  split
  · exact AV.fg_val h
  · exact h

/-- an operation that is no call of a Go function -/
def sop (E : Prg) (H : List Blk) (ts : List AV) (op : Op) : Option (Prop × List Blk × AV) :=
  match op with
  | .move x => some (True, H, ev E ts x)
  | .assign x => some (True, H, ev E ts x)
  | .pick c a b => lft H (lopPick (ev E ts c) (ev E ts a) (ev E ts b))
  | .alloc t => match E.zv t with
    | some z => some (True, H ++ [.obj z], .ptr H.length [] 0)
    | none => none
  | .box _ x => some ((ev E ts x).stor = true, H ++ [.obj (ev E ts x)], .ptr H.length [] 0)
  | .build t ps => lft H (lopBuild E t (ps.toList.map fun q => (q.1, ev E ts q.2)))
  | .buildSlice t n ps => sopSlice E H t n (ps.toList.map fun q => (q.1, ev E ts q.2))
  | .load t a => lft H (lopLoad E H t (ev E ts a))
  | .store t a x => sopStore E H t (ev E ts a) (fgAt (ev E ts a) (ev E ts x))
  | .nilCheck x => lft H (lopNil (ev E ts x))
  | .binOp op t x y _ => lft H (lopBin E op t (ev E ts x) (ev E ts y))
  | .unOp op _ x => lft H (lopUn op (ev E ts x))
  | .convert s d x => match frOf ts x, ixk E.P s with
    | some l, some (.slice e _) => if s = d then some (l ≠ [] ∧ E.P.underlying e = some (.int .u8), H, .sl 1 l true) else sopConvert E H s d (ev E ts x)
    | _, _ => sopConvert E H s d (ev E ts x)
  | .makeInterface t x => some (notIface E.P t, H, .ifc t (ev E ts x))
  | .makeFunc (.func f) fs cs => some (True, H, .clo f (fs.toList.map (ev E ts)) (cs.toList.map (ev E ts)))
  | .makeSlice t l c => sopMake E H t (ev E ts l) (ev E ts c)
  | .slice t x lo hi mx => if mx.isSome && hi.isNone then none else lft H (lopSlice E H t (ev E ts x) (lo.map (ev E ts)) (hi.map (ev E ts)) (mx.map (ev E ts)))
  | .fieldAddr s x f => lft H (lopFieldAddr E s f (ev E ts x))
  | .field s x f => lft H (lopField E s f (ev E ts x))
  | .indexAddr t x i => lft H (lopIndexAddr E t (ev E ts x) (ev E ts i))
  | .index t x i => lft H (lopIndex E t (ev E ts x) (ev E ts i))
  | .extract x i => lft H (lopExtract (ev E ts x) i)
  | .call c => match c.callee with
    | .builtin b => sopBuiltin E H ts b c.argTypes.toList c.args.toList
    | _ => none
  | _ => none

section
variable {E : Prg} {G : Ghost} {H H' : List Blk} {w : World} {p : Prop} {r : AV} {ts : List AV} {tm : Array Value}

/-- what an operation leaves -/
def OpDone (E : Prg) (G : Ghost) (H : List Blk) (w : World) (H' : List Blk) (r : AV) (s : Sem Next) : Prop :=
  ∃ v w' G', (s.run E.P w = .ok (.value v) w' ∨ (s.run E.P w = .ok .skip w' ∧ v = Go.undef)) ∧ Ext H.length G w G' w' ∧ St E.gl G' H' w' ∧ Val G' r v ∧ H.length ≤ H'.length

theorem lft_some {o : Option (Prop × AV)} (h : lft H o = some (p, H', r)) : o = some (p, r) ∧ H' = H := by
  unfold lft at h
  split at h
  · simp only [Option.some.injEq, Prod.mk.injEq] at h
    obtain ⟨rfl, rfl, rfl⟩ := h; exact ⟨rfl, rfl⟩
  · simp at h

theorem done_light (hs : St E.gl G H w) {s : Sem Value} (h : ∃ v, s.run E.P w = .ok v w ∧ Val G r v) : OpDone E G H w H r (do pure (.value (← s))) := by
  obtain ⟨v, h1, h2⟩ := h
  exact ⟨v, w, G, .inl (by simp [Sem.run_bind, h1, pure]), .refl _ _ _, hs, h2, Nat.le_refl _⟩
theorem done_heavy {s : Sem Value} (h : ∃ v w' G', s.run E.P w = .ok v w' ∧ Ext H.length G w G' w' ∧ St E.gl G' H' w' ∧ Val G' r v ∧ H.length ≤ H'.length) : OpDone E G H w H' r (do pure (.value (← s))) := by
  obtain ⟨v, w', G', h1, h2⟩ := h
  exact ⟨v, w', G', .inl (by simp [Sem.run_bind, h1, pure]), h2⟩

theorem optVal (hev : ∀ x, Val G (ev E ts x) (Act.eval { tmps := tm, defers := [] } x)) (o : Option Operand) : OptVal G (o.map (ev E ts)) (o.map (Act.eval { tmps := tm, defers := [] })) := by
  cases o with
  | none => exact .inl ⟨rfl, rfl⟩
  | some x => exact .inr ⟨_, _, rfl, rfl, hev x⟩

theorem valT_map (hev : ∀ x, Val G (ev E ts x) (Act.eval { tmps := tm, defers := [] } x)) : ∀ l : List Operand, ValT G (l.map (ev E ts)) (l.map (Act.eval { tmps := tm, defers := [] }))
  | [] => .nil
  | x :: l => .cons (hev x) (valT_map hev l)

theorem eqGuard_off {P : Program} {op : BinOp} {t : TypeId} {x y : Operand} {a b : Value} (h : (op ≠ .eql ∧ op ≠ .neq) ∨ a.oneCell' = true ∧ a ≠ .nilIface) : (eqGuard op t x y a b).run P w = .ok () w := by
  rcases h with ⟨h1, h2⟩ | ⟨h1, h2⟩
  · cases op <;> simp_all [eqGuard, pure]
  · cases op <;> simp [eqGuard, pure]
    all_goals
      split
      · exact absurd rfl h2
      · simp [Value.oneCell'] at h1
      · simp

theorem lopBin_ok {op : BinOp} {t : TypeId} {x y : AV} {xv yv : Value} {xo yo : Operand} (h : lopBin E op t x y = some (p, r)) (hp : p) (hx : Val G x xv) (hy : Val G y yv) :
    ∃ v, ((do eqGuard op t xo yo xv yv; Go.binOp op t xv yv) : Sem Value).run E.P w = .ok v w ∧ Val G r v := by
  unfold lopBin at h
  split at h
  · rename_i r' e
    simp only [Option.some.injEq] at h
    subst h
    unfold binAV at e
    split at e
    · rename_i k a k' b
      obtain rfl := hx.inv_v
      obtain rfl := hy.inv_v
      have hg : (eqGuard op t xo yo (.int k a) (.int k' b)).run E.P w = .ok () w := eqGuard_off (.inr ⟨rfl, by simp⟩)
      split at e
      · obtain ⟨v, rfl, h1, h2⟩ := run_intShift (P := E.P) (w := w) (k' := k') e hp
        exact ⟨v, by simp [Sem.run_bind, hg, h2 t], .v h1⟩
      · split at e
        · rename_i q; subst q
          obtain ⟨v, rfl, h1, h2⟩ := run_intBin (P := E.P) (w := w) e hp
          exact ⟨v, by simp [Sem.run_bind, hg, h2 t], .v h1⟩
        · simp at e
    · rename_i a b
      obtain rfl := hx.inv_v
      obtain rfl := hy.inv_v
      have hg : (eqGuard op t xo yo (.string a) (.string b)).run E.P w = .ok () w := eqGuard_off (.inr ⟨rfl, by simp⟩)
      obtain ⟨v, rfl, h1, h2⟩ := run_strBin (P := E.P) (w := w) e hp
      exact ⟨v, by simp [Sem.run_bind, hg, h2 t], .v h1⟩
    · simp at e
  · split at h
    · simp only [Option.some.injEq, Prod.mk.injEq] at h
      obtain ⟨rfl, rfl⟩ := h
      exact ⟨_, (hp G w xv yv xo yo hx hy).1, .v rfl⟩
    · simp only [Option.some.injEq, Prod.mk.injEq] at h
      obtain ⟨rfl, rfl⟩ := h
      exact ⟨_, (hp G w xv yv xo yo hx hy).2, .v rfl⟩
    · simp at h

theorem sop_ok {o : Oper} (hs : St E.gl G H w) (hv : ValT G ts tm.toList) (h : sop E H ts o.op = some (p, H', r)) (hp : p) : OpDone E G H w H' r (execOp (Act.eval { tmps := tm, defers := [] }) o) := by
  have hev : ∀ x, Val G (ev E ts x) (Act.eval { tmps := tm, defers := [] } x) := fun x => Val.ev hs hv x
  obtain ⟨dst, op, ty, pos, after, guard⟩ := o
  simp only at h
  unfold execOp
  cases op <;> simp only [sop, reduceCtorEq] at h <;> simp only
  case move x =>
    simp only [Option.some.injEq, Prod.mk.injEq] at h
    obtain ⟨rfl, rfl, rfl⟩ := h
    exact ⟨_, w, G, .inl rfl, .refl _ _ _, hs, hev x, Nat.le_refl _⟩
  case assign x =>
    simp only [Option.some.injEq, Prod.mk.injEq] at h
    obtain ⟨rfl, rfl, rfl⟩ := h
    exact ⟨_, w, G, .inl rfl, .refl _ _ _, hs, hev x, Nat.le_refl _⟩
  case pick c a b =>
    obtain ⟨h2, rfl⟩ := lft_some h; replace h := h2
    unfold lopPick at h
    split at h
    · rename_i t e1
      simp only [Option.some.injEq, Prod.mk.injEq] at h
      obtain ⟨rfl, rfl⟩ := h
      have h1 := hev c
      rw [e1] at h1
      refine ⟨if t then Act.eval { tmps := tm, defers := [] } a else Act.eval { tmps := tm, defers := [] } b, w, G, .inl ?_, .refl _ _ _, hs, ?_, Nat.le_refl _⟩
      · rw [h1.inv_v]
        cases t <;> simp [asBool, pure]
      · cases t
        · exact hev b
        · exact hev a
    · simp at h
  case alloc t =>
    split at h
    · rename_i z hz
      simp only [Option.some.injEq, Prod.mk.injEq] at h
      obtain ⟨rfl, rfl, rfl⟩ := h
      obtain ⟨hf, -, ⟨z', hz1, hz2⟩, -⟩ := E.zok _ _ hz
      obtain ⟨w', G', h1, h2, h3, h4⟩ := newObj_ok hs (t := t) (hz2 G) hf.stor
      refine done_heavy ⟨_, w', G', ?_, h2, h3, h4, by simp⟩
      simp [Instr.alloc, run_zeroValue' hz1, h1, pure]
    · simp at h
  case box t x =>
    simp only [Option.some.injEq, Prod.mk.injEq] at h
    obtain ⟨rfl, rfl, rfl⟩ := h
    obtain ⟨w', G', h1, h2, h3, h4⟩ := newObj_ok hs (t := t) (hev x) hp
    refine done_heavy ⟨_, w', G', ?_, h2, h3, h4, by simp⟩
    simp [Instr.box, h1, pure]
  case build t ps =>
    obtain ⟨h2, rfl⟩ := lft_some h; replace h := h2
    exact done_light hs (lopBuild_ok hev h hp)
  case buildSlice t n ps => exact done_heavy (sopSlice_ok hs hev h hp)
  case load t a =>
    obtain ⟨h2, rfl⟩ := lft_some h; replace h := h2
    exact done_light hs (lopLoad_ok h hp hs (hev a))
  case store t a x =>
    obtain ⟨w', G', h1, h2, h3, rfl, h5⟩ := sopStore_ok hs h hp (hev a) (fgAt_val (hev x))
    exact ⟨_, w', G', .inr ⟨by simp [Sem.run_bind, h1, pure], rfl⟩, h2, h3, .undef, h5⟩
  case nilCheck x =>
    obtain ⟨h2, rfl⟩ := lft_some h; replace h := h2
    have h1 := hev x
    generalize Act.eval { tmps := tm, defers := [] } x = xv at h1
    unfold lopNil at h
    split at h
    all_goals first | (simp at h; done) | skip
    all_goals
      rename_i e
      rw [e] at h1
      simp only [Option.some.injEq, Prod.mk.injEq] at h
      obtain ⟨-, rfl⟩ := h
      refine ⟨xv, w, G, .inl ?_, .refl _ _ _, hs, h1, Nat.le_refl _⟩
      cases h1; simp [pure]
  case binOp op t x y yt =>
    obtain ⟨h2, rfl⟩ := lft_some h; replace h := h2
    exact done_light hs (lopBin_ok h hp (hev x) (hev y))
  case unOp op t x =>
    obtain ⟨h2, rfl⟩ := lft_some h; replace h := h2
    exact done_light hs (lopUn_ok h (hev x))
  case convert s d x =>
    have hconv : sopConvert E H s d (ev E ts x) = some (p, H', r) → OpDone E G H w H' r (do pure (.value (← Go.convert s d (Act.eval { tmps := tm, defers := [] } x)))) := by
      intro h
      unfold sopConvert at h
      split at h
      · rename_i b e
        split at h
        · rename_i el sz hx
          simp only [Option.some.injEq, Prod.mk.injEq] at h
          obtain ⟨rfl, rfl, rfl⟩ := h
          obtain ⟨ds, hds⟩ := Option.ne_none_iff_exists'.1 hp.1
          have h1 := hev x
          rw [e] at h1
          rw [h1.inv_v]
          obtain ⟨v, w', G', g1, g2, g3, g4⟩ := bytes_ok hs (s := b) hds (ixk_slice hx).1 hp.2
          exact done_heavy ⟨v, w', G', g1, g2, g3, g4, by simp⟩
        · obtain ⟨h2, rfl⟩ := lft_some h; replace h := h2
          exact done_light hs (lopConvert_ok hs h hp (hev x))
      · obtain ⟨h2, rfl⟩ := lft_some h; replace h := h2
        exact done_light hs (lopConvert_ok hs h hp (hev x))
    split at h
    · rename_i l e sz hfr hix
      split at h
      · rename_i hsd
        subst hsd
        simp only [Option.some.injEq, Prod.mk.injEq] at h
        obtain ⟨rfl, rfl, rfl⟩ := h
        obtain ⟨hl, he⟩ := hp
        have hx : Val G (.fresh (.sl 1 l true)) (Act.eval { tmps := tm, defers := [] } x) := by
          unfold frOf at hfr
          split at hfr
          · rename_i t
            have h1 := hv.get t
            split at hfr
            · rename_i l' e1
              rw [e1] at h1
              simp only [Option.some.injEq] at hfr; subst hfr
              simpa [Act.eval] using h1
            · simp at hfr
          · simp at hfr
        generalize Act.eval { tmps := tm, defers := [] } x = xv at hx
        cases hx with
        | fresh hx hb =>
          have hx0 := hx
          cases hx with
          | nil => exact absurd rfl hl
          | sl hu hm hc1 hc2 =>
            have hb := hb _ _ _ rfl
            have hlen := hu.length
            have hpos : 0 < l.length := List.length_pos_iff.2 hl
            have hm0 := hm 0 (by omega)
            have hrun : ∀ (ad : Addr) (n c : Nat) (w2 : World), (markStringish ad).run E.P w = .ok () w2 → (execOp (fun _ => Value.slice (some ad) n c) ⟨dst, .convert s s x, ty, pos, after, guard⟩).run E.P w = .ok (.value (.slice (some ad) n c)) w2 := by
              intro ad n c w2 hq
              simp [execOp, Go.convert, run_underlying (ixk_slice hix).1, run_underlying he, hq]
            cases hsh : w.shape? _ with
            | none => exact ⟨_, w, G, .inl (hrun _ _ _ w (by simp only [markStringish, Sem.run_bind, run_shape, Result.andThen_ok]; rw [hsh]; rfl)), .refl _ _ _, hs, hx0, Nat.le_refl _⟩
            | some q =>
              obtain ⟨T, n⟩ := q
              exact ⟨_, _, G, .inl (hrun _ _ _ (w.freeze ⟨_, n, none⟩ 1) (by simp only [markStringish, Sem.run_bind, run_shape, Result.andThen_ok]; rw [hsh]; rfl)), Ext.mark _ _ _ hm0, hs.mark hb (fun T' m' e' => by rw [hsh] at e'; simp at e'; exact e'.2), hx0, Nat.le_refl _⟩
      · exact hconv h
    · exact hconv h
  case makeInterface t x =>
    simp only [Option.some.injEq, Prod.mk.injEq] at h
    obtain ⟨rfl, rfl, rfl⟩ := h
    obtain ⟨d, hd, hn⟩ := hp
    refine done_light hs ⟨_, ?_, .ifc (hev x)⟩
    simp only [Instr.makeInterface]
    cases d <;> first | exact absurd rfl (hn _) | simp [run_underlying hd, pure]
  case makeFunc f fs cs =>
    cases f <;> simp only [reduceCtorEq, Option.some.injEq, Prod.mk.injEq] at h
    obtain ⟨rfl, rfl, rfl⟩ := h
    rename_i fid
    refine done_light hs ⟨.func (.func fid) (fs.map (Act.eval { tmps := tm, defers := [] })) (cs.map (Act.eval { tmps := tm, defers := [] })), by simp [Instr.makeFunc, pure], ?_⟩
    have h1 := valT_map hev fs.toList
    have h2 := valT_map hev cs.toList
    have := Val.clo (f := fid) h1 h2
    have e1 : ∀ l : Array Operand, (l.toList.map (Act.eval { tmps := tm, defers := [] })).toArray = l.map (Act.eval { tmps := tm, defers := [] }) := fun l => by apply Array.ext'; simp
    rw [e1, e1] at this
    exact this
  case makeSlice t l c => exact done_heavy (sopMake_ok hs h hp (hev l) (hev c))
  case slice t x lo hi mx =>
    split at h
    · simp at h
    · rename_i q
      obtain ⟨h2, rfl⟩ := lft_some h; replace h := h2
      refine done_light hs (lopSlice_ok h hp hs (hev x) (optVal hev lo) (optVal hev hi) (optVal hev mx) ?_)
      intro q1
      cases mx <;> cases hi <;> simp_all
  case fieldAddr s x f =>
    obtain ⟨h2, rfl⟩ := lft_some h; replace h := h2
    exact done_light hs (lopFieldAddr_ok h hp (hev x))
  case field s x f =>
    obtain ⟨h2, rfl⟩ := lft_some h; replace h := h2
    exact done_light hs (lopField_ok h hp (hev x))
  case indexAddr t x i =>
    obtain ⟨h2, rfl⟩ := lft_some h; replace h := h2
    exact done_light hs (lopIndexAddr_ok h hp (hev x) (hev i))
  case index t x i =>
    obtain ⟨h2, rfl⟩ := lft_some h; replace h := h2
    exact done_light hs (lopIndex_ok h hp (hev x) (hev i))
  case extract x i =>
    obtain ⟨h2, rfl⟩ := lft_some h; replace h := h2
    unfold lopExtract at h
    split at h
    · rename_i as e
      simp only [Option.some.injEq, Prod.mk.injEq] at h
      obtain ⟨rfl, rfl⟩ := h
      have h1 := hev x
      rw [e] at h1
      generalize Act.eval { tmps := tm, defers := [] } x = xv at h1
      cases h1 with
      | tup ht =>
        rename_i xs
        have hl := ht.length
        have hg := ht.get i
        refine done_light hs ⟨xs.getD i Go.undef, ?_, hg⟩
        have : i < xs.length := by omega
        simp [Instr.extract, this, pure]
    · simp at h
  case call c =>
    obtain ⟨callee, args, argTypes⟩ := c
    simp only at h
    split at h
    · rename_i b
      simp only [resolve]
      unfold sopBuiltin at h
      split at h
      · rename_i t x e1 e2
        obtain ⟨h2, rfl⟩ := lft_some h; replace h := h2
        have ea : argTypes = #[t] := by rw [← Array.toArray_toList (xs := argTypes), e1]
        have eb : args = #[x] := by rw [← Array.toArray_toList (xs := args), e2]
        subst ea eb
        obtain ⟨v, g1, g2⟩ := lopLen_ok (ty := ty) (w := w) h (hev x)
        exact ⟨v, w, G, .inl (by simp [invoke, builtin, g1, pure]), .refl _ _ _, hs, g2, Nat.le_refl _⟩
      · rename_i t t' s x e1 e2
        have ea : argTypes = #[t, t'] := by rw [← Array.toArray_toList (xs := argTypes), e1]
        have eb : args = #[s, x] := by rw [← Array.toArray_toList (xs := args), e2]
        subst ea eb
        obtain ⟨v, w', G', g1, g2, g3, g4, g5⟩ := sopAppend_ok (ty := ty) hs h hp (hev s) (hev x)
        exact ⟨v, w', G', .inl (by simp [invoke, builtin, g1, pure]), g2, g3, g4, g5⟩
      · rename_i t t' s x e1 e2
        have ea : argTypes = #[t, t'] := by rw [← Array.toArray_toList (xs := argTypes), e1]
        have eb : args = #[s, x] := by rw [← Array.toArray_toList (xs := args), e2]
        subst ea eb
        obtain ⟨v, w', G', g1, g2, g3, g4, g5⟩ := sopCopy_ok (ty := ty) (t' := t') hs h hp (hev s) (hev x)
        exact ⟨v, w', G', .inl (by simp [invoke, builtin, g1, pure]), g2, g3, g4, g5⟩
      · rename_i x y e2
        obtain ⟨h2, rfl⟩ := lft_some h; replace h := h2
        have eb : args = #[x, y] := by rw [← Array.toArray_toList (xs := args), e2]
        subst eb
        obtain ⟨v, g1, g2⟩ := lopMinMax_ok (ts := argTypes) (ty := ty) (w := w) (E := E) h (hev x) (hev y)
        simp only [Bool.false_eq_true, if_false] at g1
        exact ⟨v, w, G, .inl (by simp [invoke, builtin, pure, g1]), .refl _ _ _, hs, g2, Nat.le_refl _⟩
      · rename_i x y e2
        obtain ⟨h2, rfl⟩ := lft_some h; replace h := h2
        have eb : args = #[x, y] := by rw [← Array.toArray_toList (xs := args), e2]
        subst eb
        obtain ⟨v, g1, g2⟩ := lopMinMax_ok (ts := argTypes) (ty := ty) (w := w) (E := E) h (hev x) (hev y)
        simp only [if_true] at g1
        exact ⟨v, w, G, .inl (by simp [invoke, builtin, pure, g1]), .refl _ _ _, hs, g2, Nat.le_refl _⟩
      · simp at h
    · simp at h
end
end Go.Mc
