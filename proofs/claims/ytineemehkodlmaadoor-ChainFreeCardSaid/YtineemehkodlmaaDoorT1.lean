/- Abstract values and contracts of calls of the program: a part of the logic in which the claim is proved; it states nothing of the program by itself. -/
import Derived.Calls
import Derived.Below
import Derived.ArgAppend
import Derived.Laws.Slices
set_option linter.all false
namespace Go.Mc
open Go.RowKit (Below)

inductive AV where
  | undef
  | v (x : Value)
  | node (ws : List Nat) (as : List AV)
  | arr (sz : Nat) (as : List AV)
  | sl (sz : Nat) (as : List AV) (cl : Bool)
  | sla (sz : Nat) (as : List AV) (k : Nat)
  | asl (k : Nat) (p : List Nat) (off sz len : Nat)
  | ptr (k : Nat) (p : List Nat) (off : Nat)
  | cptr (a : AV)
  | clo (f : FuncId) (fs cs : List AV)
  | ifc (t : TypeId) (a : AV)
  | tup (as : List AV)
  | any
  | fresh (z : AV)
  deriving Inhabited

/-- blocks of the abstract heap -/
inductive Blk where
  | obj (a : AV)
  | froz (a : AV)
  | tok (sz n : Nat)
  | dead
  deriving Inhabited

structure Ghost where
  base : World
  mem : Nat → Nat → Option Value
  bl : Nat → Option Nat
  rv : Nat → Nat → Option Value
  ow : Nat → Option Nat

structure Ghost.Le (m : Nat) (G G' : Ghost) : Prop where
  base : G'.base = G.base
  mem : ∀ b o v, G.mem b o = some v → G'.mem b o = some v
  bl : ∀ k b, k < m → G.bl k = some b → G'.bl k = some b
  rv : ∀ k n s, k < m → G.rv k n = some s → G'.rv k n = some s

/-- single-cell values -/
def Ones (cs : List Value) : Prop := ∀ c ∈ cs, c.oneCell' = true

mutual
inductive Val (G : Ghost) : AV → Value → Prop
  | undef : Val G .undef Go.undef
  | v {x : Value} (h : x.oneCell' = true) : Val G (.v x) x
  | node {ws as cs} : ValN G ws as cs → Val G (.node ws as) (.agg cs.toArray)
  | arr {sz as cs} : ValU G sz as cs → Val G (.arr sz as) (.agg cs.toArray)
  | nil {sz cl} : Val G (.sl sz [] cl) (.slice none 0 0)
  | sl {sz as cl b off cap cs} : ValU G sz as cs → (∀ i (h : i < cs.length), G.mem b (off + i) = some cs[i]) → as.length ≤ cap → (cl = true → cap = as.length) →
      Val G (.sl sz as cl) (.slice (some ⟨b, off, none⟩) as.length cap)
  | sla {sz as k x} : Val G (.sl sz as false) x → G.rv k as.length = some x → Val G (.sla sz as k) x
  | asl {k p off sz len b cap} : G.bl k = some b → len ≤ cap → Val G (.asl k p off sz len) (.slice (some ⟨b, off, none⟩) len cap)
  | ptr {k p off b} : G.bl k = some b → Val G (.ptr k p off) (.pointer (some ⟨b, off, none⟩))
  | cptr {a x b off} : Val G a x → (∀ i (h : i < x.cells.size), G.mem b (off + i) = some x.cells[i]) → Val G (.cptr a) (.pointer (some ⟨b, off, none⟩))
  | clo {f fs cs xs ys} : ValT G fs xs → ValT G cs ys → Val G (.clo f fs cs) (.func (.func f) xs.toArray ys.toArray)
  | ifc {t a x} : Val G a x → Val G (.ifc t a) (.iface t x)
  | tup {as xs} : ValT G as xs → Val G (.tup as) (.tuple xs.toArray)
  | any {x} : Val G .any x
  | fresh {z x} : Val G z x → (∀ ad n c, x = .slice (some ad) n c → G.base.heap.size ≤ ad.block) → Val G (.fresh z) x
inductive ValN (G : Ghost) : List Nat → List AV → List Value → Prop
  | nil : ValN G [] [] []
  | cons {w a x ws as cs} : Val G a x → x.cells.size = w ∧ Ones x.cells.toList → ValN G ws as cs → ValN G (w :: ws) (a :: as) (x.cells.toList ++ cs)
inductive ValU (G : Ghost) : Nat → List AV → List Value → Prop
  | nil {sz} : ValU G sz [] []
  | cons {sz a x as cs} : Val G a x → x.cells.size = sz ∧ Ones x.cells.toList → ValU G sz as cs → ValU G sz (a :: as) (x.cells.toList ++ cs)
inductive ValT (G : Ghost) : List AV → List Value → Prop
  | nil : ValT G [] []
  | cons {a x as xs} : Val G a x → ValT G as xs → ValT G (a :: as) (x :: xs)
end

/-- the names that a value mentions lie below n -/
def Ghost.Sup (G : Ghost) (n : Nat) : Prop := (∀ k b, G.bl k = some b → k < n) ∧ (∀ k i s, G.rv k i = some s → k < n)

theorem Ghost.Le.refl (m : Nat) (G : Ghost) : G.Le m G := ⟨rfl, fun _ _ _ h => h, fun _ _ _ h => h, fun _ _ _ _ h => h⟩
theorem Ghost.Le.trans {m : Nat} {a b c : Ghost} (h : a.Le m b) (k : b.Le m c) : a.Le m c :=
  ⟨k.base.trans h.base, fun _ _ _ e => k.mem _ _ _ (h.mem _ _ _ e), fun _ _ l e => k.bl _ _ l (h.bl _ _ l e), fun _ _ _ l e => k.rv _ _ _ l (h.rv _ _ _ l e)⟩
theorem Ghost.Le.down {m n : Nat} {a b : Ghost} (h : a.Le n b) (l : m ≤ n) : a.Le m b :=
  ⟨h.base, h.mem, fun _ _ k e => h.bl _ _ (by omega) e, fun _ _ _ k e => h.rv _ _ _ (by omega) e⟩

mutual
theorem Val.mono {G G' : Ghost} {m : Nat} (l : G.Le m G') (s : G.Sup m) : ∀ {a x}, Val G a x → Val G' a x
  | _, _, .undef => .undef
  | _, _, .v h => .v h
  | _, _, .node h => .node (ValN.mono l s h)
  | _, _, .arr h => .arr (ValU.mono l s h)
  | _, _, .nil => .nil
  | _, _, .sl h m c d => .sl (ValU.mono l s h) (fun i hi => l.mem _ _ _ (m i hi)) c d
  | _, _, .sla h k => .sla (Val.mono l s h) (l.rv _ _ _ (s.2 _ _ _ k) k)
  | _, _, .asl h c => .asl (l.bl _ _ (s.1 _ _ h) h) c
  | _, _, .ptr h => .ptr (l.bl _ _ (s.1 _ _ h) h)
  | _, _, .cptr h m => .cptr (Val.mono l s h) (fun i hi => l.mem _ _ _ (m i hi))
  | _, _, .clo h k => .clo (ValT.mono l s h) (ValT.mono l s k)
  | _, _, .ifc h => .ifc (Val.mono l s h)
  | _, _, .tup h => .tup (ValT.mono l s h)
  | _, _, .any => .any
  | _, _, .fresh h k => .fresh (Val.mono l s h) (fun ad n c e => by have h1 := k ad n c e; have h2 := l.base; simp_all)
theorem ValN.mono {G G' : Ghost} {m : Nat} (l : G.Le m G') (s : G.Sup m) : ∀ {ws as cs}, ValN G ws as cs → ValN G' ws as cs
  | _, _, _, .nil => .nil
  | _, _, _, .cons h e t => .cons (Val.mono l s h) e (ValN.mono l s t)
theorem ValU.mono {G G' : Ghost} {m : Nat} (l : G.Le m G') (s : G.Sup m) : ∀ {sz as cs}, ValU G sz as cs → ValU G' sz as cs
  | _, _, _, .nil => .nil
  | _, _, _, .cons h e t => .cons (Val.mono l s h) e (ValU.mono l s t)
theorem ValT.mono {G G' : Ghost} {m : Nat} (l : G.Le m G') (s : G.Sup m) : ∀ {as xs}, ValT G as xs → ValT G' as xs
  | _, _, .nil => .nil
  | _, _, .cons h t => .cons (Val.mono l s h) (ValT.mono l s t)
end

/-! lists of values -/
theorem ValT.length {G : Ghost} : ∀ {as xs}, ValT G as xs → as.length = xs.length
  | _, _, .nil => rfl
  | _, _, .cons _ t => by simp [t.length]
theorem ValT.get {G : Ghost} : ∀ {as xs}, ValT G as xs → ∀ i, Val G (as.getD i .undef) (xs.getD i Go.undef)
  | _, _, .nil, i => by simpa using Val.undef
  | _, _, .cons h t, 0 => by simpa using h
  | _, _, .cons h t, i + 1 => by simpa using t.get i
theorem ValT.set {G : Ghost} {a x} (hv : Val G a x) : ∀ {as xs}, ValT G as xs → ∀ i, ValT G (as.set i a) (xs.set i x)
  | _, _, .nil, i => by simpa using ValT.nil
  | _, _, .cons h t, 0 => by simpa using ValT.cons hv t
  | _, _, .cons h t, i + 1 => by simpa using ValT.cons h (t.set hv i)
theorem ValT.append {G : Ghost} {bs ys} (k : ValT G bs ys) : ∀ {as xs}, ValT G as xs → ValT G (as ++ bs) (xs ++ ys)
  | _, _, .nil => by simpa using k
  | _, _, .cons h t => by simpa using ValT.cons h (ValT.append k t)
theorem ValT.undefs (G : Ghost) : ∀ n, ValT G (List.replicate n .undef) (List.replicate n Go.undef)
  | 0 => .nil
  | n + 1 => by simpa [List.replicate_succ] using ValT.cons Val.undef (ValT.undefs G n)

theorem ValU.length {G : Ghost} : ∀ {sz as cs}, ValU G sz as cs → cs.length = as.length * sz
  | _, _, _, .nil => by simp
  | _, _, _, .cons h e t => by simp [t.length, e.1, Nat.succ_mul]; omega
theorem ValU.append {G : Ghost} {sz bs ds} (k : ValU G sz bs ds) : ∀ {as cs}, ValU G sz as cs → ValU G sz (as ++ bs) (cs ++ ds)
  | _, _, .nil => by simpa using k
  | _, _, .cons h e t => by simpa using ValU.cons h e (ValU.append k t)
/-- the element at i and its cells -/
theorem ValU.get {G : Ghost} {sz} : ∀ {as cs}, ValU G sz as cs → ∀ i, i < as.length → ∃ x, Val G (as.getD i .undef) x ∧ x.cells.size = sz ∧ Ones x.cells.toList ∧ (cs.drop (i * sz)).take sz = x.cells.toList
  | _, _, .nil, i, h => by simp at h
  | _, _, .cons (x := x) (as := as) (cs := cs) hv e t, 0, h => ⟨x, by simpa using hv, e.1, e.2, by simp [← e.1]⟩
  | _, _, .cons (x := x) (as := as) (cs := cs) hv e t, i + 1, h => by
    obtain ⟨y, h1, h2, h4, h3⟩ := t.get i (by simpa using h)
    refine ⟨y, by simpa using h1, h2, h4, ?_⟩
    rw [Nat.succ_mul, Nat.add_comm, List.drop_append, ← h3]
    simp [e.1, List.drop_of_length_le]
theorem ValU.set {G : Ghost} {sz b y} (hb : Val G b y) (ey : y.cells.size = sz ∧ Ones y.cells.toList) : ∀ {as cs}, ValU G sz as cs → ∀ i, i < as.length → ValU G sz (as.set i b) (cs.take (i * sz) ++ (y.cells.toList ++ cs.drop (i * sz + sz)))
  | _, _, .nil, i, h => by simp at h
  | _, _, .cons (x := x) (as := as) (cs := cs) hv e t, 0, h => by
    have := ValU.cons hb ey t
    simpa [← e.1] using this
  | _, _, .cons (x := x) (as := as) (cs := cs) hv e t, i + 1, h => by
    have := ValU.cons hv e (t.set hb ey i (by simpa using h))
    have e1 : (x.cells.toList ++ cs).take ((i + 1) * sz) = x.cells.toList ++ cs.take (i * sz) := by
      rw [Nat.succ_mul, List.take_append]; simp [e.1, List.take_of_length_le]
    have e2 : (x.cells.toList ++ cs).drop ((i + 1) * sz + sz) = cs.drop (i * sz + sz) := by
      rw [Nat.succ_mul, List.drop_append, List.drop_of_length_le (by simp [e.1])]; simp [e.1]
    simpa [e1, e2] using this
theorem ValU.take {G : Ghost} {sz} : ∀ {as cs}, ValU G sz as cs → ∀ n, ValU G sz (as.take n) (cs.take (n * sz))
  | _, _, .nil, n => by simpa using ValU.nil
  | _, _, .cons h e t, 0 => by simpa using ValU.nil
  | _, _, .cons (x := x) (cs := cs) h e t, n + 1 => by
    have := ValU.cons h e (t.take n)
    have e1 : (x.cells.toList ++ cs).take ((n + 1) * sz) = x.cells.toList ++ cs.take (n * sz) := by
      rw [Nat.succ_mul, List.take_append]; simp [e.1, List.take_of_length_le]
    simpa [e1] using this
theorem ValU.drop {G : Ghost} {sz} : ∀ {as cs}, ValU G sz as cs → ∀ n, ValU G sz (as.drop n) (cs.drop (n * sz))
  | _, _, .nil, n => by simpa using ValU.nil
  | _, _, .cons h e t, 0 => by simpa using ValU.cons h e t
  | _, _, .cons (x := x) (cs := cs) h e t, n + 1 => by
    have e1 : (x.cells.toList ++ cs).drop ((n + 1) * sz) = cs.drop (n * sz) := by
      rw [Nat.succ_mul, List.drop_append, List.drop_of_length_le (by simp [e.1])]; simp [e.1]
    simpa [e1] using t.drop n

theorem ones_append {l m : List Value} (h : Ones l) (k : Ones m) : Ones (l ++ m) := fun c hc => (List.mem_append.1 hc).elim (h c) (k c)
theorem ValU.ones {G : Ghost} : ∀ {sz as cs}, ValU G sz as cs → Ones cs
  | _, _, _, .nil => fun _ h => by simp at h
  | _, _, _, .cons _ e t => ones_append e.2 t.ones
theorem ValN.ones {G : Ghost} : ∀ {ws as cs}, ValN G ws as cs → Ones cs
  | _, _, _, .nil => fun _ h => by simp at h
  | _, _, _, .cons _ e t => ones_append e.2 t.ones
theorem ValN.lens {G : Ghost} : ∀ {ws as cs}, ValN G ws as cs → ws.length = as.length ∧ cs.length = ws.sum
  | _, _, _, .nil => by simp
  | _, _, _, .cons h e t => by have := t.lens; simp [this.1, this.2, e.1]
theorem ValN.get {G : Ghost} : ∀ {ws as cs}, ValN G ws as cs → ∀ i, i < as.length → ∃ x, Val G (as.getD i .undef) x ∧ x.cells.size = ws.getD i 0 ∧ Ones x.cells.toList ∧ (cs.drop (ws.take i).sum).take (ws.getD i 0) = x.cells.toList
  | _, _, _, .nil, i, h => by simp at h
  | _, _, _, .cons (x := x) hv e t, 0, h => ⟨x, by simpa using hv, by simpa using e.1, e.2, by simp [← e.1]⟩
  | _, _, _, .cons (x := x) hv e t, i + 1, h => by
    obtain ⟨y, h1, h2, h4, h3⟩ := t.get i (by simpa using h)
    refine ⟨y, by simpa using h1, by simpa using h2, h4, ?_⟩
    simp only [List.take_succ_cons, List.sum_cons, List.getD_cons_succ]
    rw [List.drop_append, ← h3]
    simp [e.1, List.drop_of_length_le]
theorem ValN.set {G : Ghost} {b y} (hb : Val G b y) (ho : Ones y.cells.toList) : ∀ {ws as cs}, ValN G ws as cs → ∀ i, i < as.length → y.cells.size = ws.getD i 0 → ValN G ws (as.set i b) (cs.take (ws.take i).sum ++ (y.cells.toList ++ cs.drop ((ws.take i).sum + ws.getD i 0)))
  | _, _, _, .nil, i, h, _ => by simp at h
  | _, _, _, .cons (x := x) hv e t, 0, h, ey => by
    have := ValN.cons hb ⟨ey, ho⟩ t
    simpa [← e.1] using this
  | _, _, _, .cons (x := x) (ws := ws) (cs := cs) hv e t, i + 1, h, ey => by
    have := ValN.cons hv e (t.set hb ho i (by simpa using h) (by simpa using ey))
    simp only [List.take_succ_cons, List.sum_cons, List.getD_cons_succ, List.set_cons_succ]
    rw [List.take_append, List.drop_append]
    simpa [e.1, List.take_of_length_le, List.drop_of_length_le, Nat.add_assoc] using this

/-- the part of a tree at a path, with its offset -/
def sub : List Nat → AV → Nat → Option (Nat × AV)
  | [], a, o => some (o, a)
  | i :: p, .node ws as, o => if i < as.length then sub p (as.getD i .undef) (o + (ws.take i).sum) else none
  | i :: p, .arr sz as, o => if i < as.length then sub p (as.getD i .undef) (o + i * sz) else none
  | _ :: _, _, _ => none

/-- the tree with another part at a path -/
def upd : List Nat → AV → AV → AV
  | [], _, b => b
  | i :: p, .node ws as, b => .node ws (as.set i (upd p (as.getD i .undef) b))
  | i :: p, .arr sz as, b => .arr sz (as.set i (upd p (as.getD i .undef) b))
  | _ :: _, a, _ => a

theorem drop_take_trans {α : Type} (l m : List α) (e s d k : Nat) (h : (l.drop e).take s = m) (hk : d + k ≤ s) : (l.drop (e + d)).take k = (m.drop d).take k := by
  subst h
  rw [List.drop_take, List.take_take, Nat.min_eq_left (by omega), List.drop_drop]

theorem splice_trans {α : Type} (l m z : List α) (e s d k : Nat) (_ : e + s ≤ l.length) (hm : (l.drop e).take s = m) (hk : d + k ≤ s) :
    l.take e ++ ((m.take d ++ (z ++ m.drop (d + k))) ++ l.drop (e + s)) = l.take (e + d) ++ (z ++ l.drop (e + d + k)) := by
  subst hm
  rw [List.take_take, Nat.min_eq_left (by omega), List.drop_take, List.drop_drop]
  have e1 : l.take (e + d) = l.take e ++ (l.drop e).take d := by rw [← List.take_add]
  have e2 : l.drop (e + d + k) = (l.drop (e + (d + k))).take (s - (d + k)) ++ l.drop (e + s) := by
    have : l.drop (e + s) = (l.drop (e + (d + k))).drop (s - (d + k)) := by rw [List.drop_drop]; congr 1; omega
    rw [this, List.take_append_drop, Nat.add_assoc]
  rw [e1, e2]; simp

theorem agg_cells (cs : List Value) : (Value.agg cs.toArray).cells = cs.toArray := rfl

theorem sub_upd {G : Ghost} : ∀ (p : List Nat) {a x acc o b}, Val G a x → sub p a acc = some (o, b) →
    ∃ y d, o = acc + d ∧ Val G b y ∧ d + y.cells.size ≤ x.cells.size ∧ (x.cells.toList.drop d).take y.cells.size = y.cells.toList ∧
      ∀ c z, Val G c z → Ones z.cells.toList → Ones x.cells.toList → z.cells.size = y.cells.size → ∃ x', Val G (upd p a c) x' ∧ Ones x'.cells.toList ∧ x'.cells.size = x.cells.size ∧
        x'.cells.toList = x.cells.toList.take d ++ (z.cells.toList ++ x.cells.toList.drop (d + y.cells.size))
  | [], a, x, acc, o, b, hv, h => by
    simp only [sub, Option.some.injEq, Prod.mk.injEq] at h
    obtain ⟨rfl, rfl⟩ := h
    refine ⟨x, 0, rfl, hv, by omega, by simp [List.take_of_length_le], fun c z hc ho _ e => ⟨z, hc, ho, e, ?_⟩⟩
    simp [List.drop_of_length_le]
  | i :: p, .node ws as, x, acc, o, b, hv, h => by
    cases hv with
    | node hn =>
      rename_i cs
      simp only [sub] at h
      split at h
      · rename_i hi
        obtain ⟨xi, h1, h2, h4, h3⟩ := hn.get i hi
        obtain ⟨y, d, rfl, hy, hle, hw, hu⟩ := sub_upd p h1 h
        have hl := hn.lens.2
        have hws : (ws.take i).sum + ws.getD i 0 ≤ cs.length := by
          have := congrArg List.length h3
          simp only [List.length_take, List.length_drop, Array.length_toList, h2] at this
          by_cases h0 : ws.getD i 0 = 0
          · have h4 : (ws.take i).sum ≤ ws.sum := by
              have := List.take_append_drop i ws
              calc (ws.take i).sum ≤ (ws.take i).sum + (ws.drop i).sum := by omega
                _ = ws.sum := by rw [← List.sum_append, this]
            omega
          · omega
        rw [agg_cells]
        refine ⟨y, (ws.take i).sum + d, by omega, hy, by simp; omega, ?_, ?_⟩
        · rw [drop_take_trans _ _ _ _ _ _ h3 (by omega), hw]
        · intro c z hc ho ho2 hz
          obtain ⟨x', hx1, hx4, hx2, hx3⟩ := hu c z hc ho h4 hz
          refine ⟨_, .node (hn.set hx1 hx4 i hi (by omega)), ValN.ones (hn.set hx1 hx4 i hi (by omega)), ?_, ?_⟩
          · have := (hn.set hx1 hx4 i hi (by omega)).lens.2
            rw [agg_cells]; simpa [hl] using this
          · rw [agg_cells]
            simp only [hx3]
            rw [splice_trans _ _ _ _ _ _ _ hws h3 (by omega)]
      · simp at h
  | i :: p, .arr sz as, x, acc, o, b, hv, h => by
    cases hv with
    | arr hn =>
      rename_i cs
      simp only [sub] at h
      split at h
      · rename_i hi
        obtain ⟨xi, h1, h2, h4, h3⟩ := hn.get i hi
        obtain ⟨y, d, rfl, hy, hle, hw, hu⟩ := sub_upd p h1 h
        have hl := hn.length
        have hws : i * sz + sz ≤ cs.length := by
          rw [hl, ← Nat.succ_mul]; exact Nat.mul_le_mul_right _ hi
        rw [agg_cells]
        refine ⟨y, i * sz + d, by omega, hy, by simp; omega, ?_, ?_⟩
        · rw [drop_take_trans _ _ _ _ _ _ h3 (by omega), hw]
        · intro c z hc ho ho2 hz
          obtain ⟨x', hx1, hx4, hx2, hx3⟩ := hu c z hc ho h4 hz
          refine ⟨_, .arr (hn.set hx1 ⟨by omega, hx4⟩ i hi), ValU.ones (hn.set hx1 ⟨by omega, hx4⟩ i hi), ?_, ?_⟩
          · have := (hn.set hx1 ⟨by omega, hx4⟩ i hi).length
            rw [agg_cells]; simpa [hl] using this
          · rw [agg_cells]
            simp only [hx3]
            rw [splice_trans _ _ _ _ _ _ _ hws h3 (by omega)]
      · simp at h
  | _ :: _, .undef, _, _, _, _, _, h | _ :: _, .v _, _, _, _, _, _, h | _ :: _, .sl _ _ _, _, _, _, _, _, h | _ :: _, .sla _ _ _, _, _, _, _, _, h
  | _ :: _, .asl _ _ _ _ _, _, _, _, _, _, h | _ :: _, .ptr _ _ _, _, _, _, _, _, h | _ :: _, .cptr _, _, _, _, _, _, h | _ :: _, .clo _ _ _, _, _, _, _, _, h
  | _ :: _, .ifc _ _, _, _, _, _, _, h | _ :: _, .tup _, _, _, _, _, _, h | _ :: _, .any, _, _, _, _, _, h | _ :: _, .fresh _, _, _, _, _, _, h => by simp [sub] at h
end Go.Mc
