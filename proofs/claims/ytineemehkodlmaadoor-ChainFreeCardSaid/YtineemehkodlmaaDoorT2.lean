/- Abstract values and contracts of calls of the program: a part of the logic in which the claim is proved; it states nothing of the program by itself. -/
import Derived.Test.YtineemehkodlmaaDoorT1
set_option linter.all false
namespace Go.Mc
open Go.RowKit (Below)

mutual
/-- the names that a value mentions lie below n -/
def AV.lt (n : Nat) : AV → Prop
  | .undef | .v _ | .any => True
  | .fresh a => AV.lt n a
  | .node _ as => AV.ltL n as
  | .arr _ as => AV.ltL n as
  | .sl _ as _ => AV.ltL n as
  | .sla _ as k => k < n ∧ AV.ltL n as
  | .asl k _ _ _ _ => k < n
  | .ptr k _ _ => k < n
  | .cptr a => AV.lt n a
  | .clo _ fs cs => AV.ltL n fs ∧ AV.ltL n cs
  | .ifc _ a => AV.lt n a
  | .tup as => AV.ltL n as
def AV.ltL (n : Nat) : List AV → Prop
  | [] => True
  | a :: as => AV.lt n a ∧ AV.ltL n as
end

def Blk.lt (n : Nat) : Blk → Prop
  | .obj a | .froz a => a.lt n
  | .tok _ _ | .dead => True

theorem AV.ltL_iff (n : Nat) : ∀ as, AV.ltL n as ↔ ∀ a ∈ as, a.lt n
  | [] => by simp [AV.ltL]
  | a :: as => by simp [AV.ltL, AV.ltL_iff n as]

mutual
theorem AV.lt_mono {m n : Nat} (l : m ≤ n) : ∀ a : AV, a.lt m → a.lt n
  | .undef, _ | .v _, _ | .any, _ => by simp [AV.lt]
  | .fresh a, h => by simp only [AV.lt] at h ⊢; exact AV.lt_mono l a h
  | .node _ as, h | .arr _ as, h | .sl _ as _, h | .tup as, h => by simp only [AV.lt] at h ⊢; exact AV.ltL_mono l as h
  | .sla _ as k, h => by simp only [AV.lt] at h ⊢; exact ⟨by omega, AV.ltL_mono l as h.2⟩
  | .asl _ _ _ _ _, h | .ptr _ _ _, h => by simp only [AV.lt] at h ⊢; omega
  | .cptr a, h | .ifc _ a, h => by simp only [AV.lt] at h ⊢; exact AV.lt_mono l a h
  | .clo _ fs cs, h => by simp only [AV.lt] at h ⊢; exact ⟨AV.ltL_mono l fs h.1, AV.ltL_mono l cs h.2⟩
theorem AV.ltL_mono {m n : Nat} (l : m ≤ n) : ∀ as : List AV, AV.ltL m as → AV.ltL n as
  | [], _ => by simp [AV.ltL]
  | a :: as, h => by simp only [AV.ltL] at h ⊢; exact ⟨AV.lt_mono l a h.1, AV.ltL_mono l as h.2⟩
end

mutual
theorem Val.lt {G : Ghost} {n : Nat} (s : G.Sup n) : ∀ {a x}, Val G a x → a.lt n
  | _, _, .undef => by simp [AV.lt]
  | _, _, .v _ => by simp [AV.lt]
  | _, _, .node h => by simp only [AV.lt]; exact ValN.lt s h
  | _, _, .arr h => by simp only [AV.lt]; exact ValU.lt s h
  | _, _, .nil => by simp [AV.lt, AV.ltL]
  | _, _, .sl h _ _ _ => by simp only [AV.lt]; exact ValU.lt s h
  | _, _, .sla h k => by have := Val.lt s h; simp only [AV.lt] at this ⊢; exact ⟨s.2 _ _ _ k, this⟩
  | _, _, .asl h _ => by simp only [AV.lt]; exact s.1 _ _ h
  | _, _, .ptr h => by simp only [AV.lt]; exact s.1 _ _ h
  | _, _, .cptr h _ => by simp only [AV.lt]; exact Val.lt s h
  | _, _, .clo h k => by simp only [AV.lt]; exact ⟨ValT.lt s h, ValT.lt s k⟩
  | _, _, .ifc h => by simp only [AV.lt]; exact Val.lt s h
  | _, _, .tup h => by simp only [AV.lt]; exact ValT.lt s h
  | _, _, .any => by simp [AV.lt]
  | _, _, .fresh h _ => by simp only [AV.lt]; exact Val.lt s h
theorem ValN.lt {G : Ghost} {n : Nat} (s : G.Sup n) : ∀ {ws as cs}, ValN G ws as cs → AV.ltL n as
  | _, _, _, .nil => by simp [AV.ltL]
  | _, _, _, .cons h _ t => by simp only [AV.ltL]; exact ⟨Val.lt s h, ValN.lt s t⟩
theorem ValU.lt {G : Ghost} {n : Nat} (s : G.Sup n) : ∀ {sz as cs}, ValU G sz as cs → AV.ltL n as
  | _, _, _, .nil => by simp [AV.ltL]
  | _, _, _, .cons h _ t => by simp only [AV.ltL]; exact ⟨Val.lt s h, ValU.lt s t⟩
theorem ValT.lt {G : Ghost} {n : Nat} (s : G.Sup n) : ∀ {as xs}, ValT G as xs → AV.ltL n as
  | _, _, .nil => by simp [AV.ltL]
  | _, _, .cons h t => by simp only [AV.ltL]; exact ⟨Val.lt s h, ValT.lt s t⟩
end

/-- the ghost without the names from n on -/
def Ghost.cut (G : Ghost) (n : Nat) : Ghost :=
  { G with bl := fun k => if k < n then G.bl k else none, rv := fun k i => if k < n then G.rv k i else none, ow := fun k => if k < n then G.ow k else none }

mutual
theorem Val.cut {G : Ghost} {n : Nat} : ∀ {a x}, Val G a x → a.lt n → Val (G.cut n) a x
  | _, _, .undef, _ => .undef
  | _, _, .v h, _ => .v h
  | _, _, .node h, l => .node (ValN.cut h (by simpa only [AV.lt] using l))
  | _, _, .arr h, l => .arr (ValU.cut h (by simpa only [AV.lt] using l))
  | _, _, .nil, _ => .nil
  | _, _, .sl h m c d, l => .sl (ValU.cut h (by simpa only [AV.lt] using l)) m c d
  | _, _, .sla h k, l => by
    simp only [AV.lt] at l
    exact .sla (Val.cut h (by simpa only [AV.lt] using l.2)) (by simpa [Ghost.cut, l.1] using k)
  | _, _, .asl h c, l => by simp only [AV.lt] at l; exact .asl (by simpa [Ghost.cut, l] using h) c
  | _, _, .ptr h, l => by simp only [AV.lt] at l; exact .ptr (by simpa [Ghost.cut, l] using h)
  | _, _, .cptr h m, l => .cptr (Val.cut h (by simpa only [AV.lt] using l)) m
  | _, _, .clo h k, l => by simp only [AV.lt] at l; exact .clo (ValT.cut h l.1) (ValT.cut k l.2)
  | _, _, .ifc h, l => .ifc (Val.cut h (by simpa only [AV.lt] using l))
  | _, _, .tup h, l => .tup (ValT.cut h (by simpa only [AV.lt] using l))
  | _, _, .any, _ => .any
  | _, _, .fresh h k, l => .fresh (Val.cut h (by simpa only [AV.lt] using l)) k
theorem ValN.cut {G : Ghost} {n : Nat} : ∀ {ws as cs}, ValN G ws as cs → AV.ltL n as → ValN (G.cut n) ws as cs
  | _, _, _, .nil, _ => .nil
  | _, _, _, .cons h e t, l => by simp only [AV.ltL] at l; exact .cons (Val.cut h l.1) e (ValN.cut t l.2)
theorem ValU.cut {G : Ghost} {n : Nat} : ∀ {sz as cs}, ValU G sz as cs → AV.ltL n as → ValU (G.cut n) sz as cs
  | _, _, _, .nil, _ => .nil
  | _, _, _, .cons h e t, l => by simp only [AV.ltL] at l; exact .cons (Val.cut h l.1) e (ValU.cut t l.2)
theorem ValT.cut {G : Ghost} {n : Nat} : ∀ {as xs}, ValT G as xs → AV.ltL n as → ValT (G.cut n) as xs
  | _, _, .nil, _ => .nil
  | _, _, .cons h t, l => by simp only [AV.ltL] at l; exact .cons (Val.cut h l.1) (ValT.cut t l.2)
end

/-! blocks of the world -/
def Holds (w : World) (b : Nat) (cs : List Value) : Prop :=
  ∃ T lo hi, w.heap[b]? = some (.cells cs.toArray T (lo, hi)) ∧ lo ≤ hi ∧ ∀ o, o < cs.length → ¬ (lo ≤ o ∧ o < hi)

theorem Holds.lt {w : World} {b cs} (h : Holds w b cs) : b < w.heap.size := by
  obtain ⟨_, _, _, h, _⟩ := h
  exact (Array.getElem?_eq_some_iff.1 h).1
theorem Holds.cell {w : World} {b cs} (h : Holds w b cs) {i : Nat} : w.cell? ⟨b, i, none⟩ = cs[i]? := by
  obtain ⟨_, _, _, h, _⟩ := h
  simp [World.cell?, h]
theorem Holds.free {w : World} {b cs} (h : Holds w b cs) {i : Nat} (hi : i < cs.length) : w.frozen? ⟨b, i, none⟩ = false := by
  obtain ⟨_, lo, hi', h, hf⟩ := h
  have := hf.2 i hi
  simp only [World.frozen?, h]
  simp only [Bool.and_eq_false_imp, decide_eq_true_eq, decide_eq_false_iff_not]
  omega
theorem Holds.of_heap {w w' : World} {b cs} (h : Holds w b cs) (e : w'.heap[b]? = w.heap[b]?) : Holds w' b cs := by
  obtain ⟨T, lo, hi, h1, h2⟩ := h
  exact ⟨T, lo, hi, e.trans h1, h2⟩
theorem freeze_heap (w : World) (b n k : Nat) (h : k ≠ b) : (w.freeze ⟨b, n, none⟩ 1).heap[k]? = w.heap[k]? := by
  simp [World.freeze, Array.getElem?_modify, Ne.symm h]
theorem freeze_size (w : World) (b n : Nat) : (w.freeze ⟨b, n, none⟩ 1).heap.size = w.heap.size := by simp [World.freeze]
theorem freeze_cell (w : World) (b n : Nat) (a : Addr) : (w.freeze ⟨b, n, none⟩ 1).cell? a = w.cell? a := by
  by_cases h : a.block = b
  · subst h
    simp only [World.cell?, World.freeze, Nat.one_ne_zero, if_false, Array.getElem?_modify, if_true]
    cases e : w.heap[a.block]? with
    | none => simp
    | some o => cases o <;> simp
  · simp only [World.cell?, freeze_heap w b n a.block h]
theorem Holds.freeze {w : World} {b b' n : Nat} {cs : List Value} (h : Holds w b cs) (hn : ∀ T m, w.shape? b' = some (T, m) → n = m) : Holds (w.freeze ⟨b', n, none⟩ 1) b cs := by
  by_cases e : b = b'
  · subst e
    obtain ⟨T, lo, hi, h1, h2, h3⟩ := h
    have hs : n = cs.length := by
      have := hn T cs.length (by simp [World.shape?, h1])
      exact this
    have hlo : ∀ o, o < cs.length → ¬ (lo ≤ o ∧ o < hi) := h3
    refine ⟨T, if lo == hi then n else min lo n, if lo == hi then n + 1 else max hi (n + 1), ?_, ?_, ?_⟩
    · simp only [World.freeze, Nat.one_ne_zero, if_false, Array.getElem?_modify, if_true, h1, Option.map_some]
      split <;> rfl
    · split
      · omega
      · omega
    · intro o ho
      by_cases q : lo = hi
      · simp [q]; omega
      · have hne : (lo == hi) = false := by simpa using q
        simp only [hne, Bool.false_eq_true, if_false]
        have := hlo (min lo n)
        intro ⟨p1, p2⟩
        have h4 := hlo o ho
        rcases Nat.lt_or_ge lo n with p | p
        · exact absurd ⟨Nat.le_refl lo, by omega⟩ (hlo lo (by omega))
        · omega
  · exact h.of_heap (freeze_heap w b' n b e)
theorem heap_setCells_other (b : Nat) : ∀ (vs : List Value) (o : Nat) (w : World) (k : Nat), k ≠ b → (w.setCells b o vs).heap[k]? = w.heap[k]?
  | [], _, _, _, _ => rfl
  | v :: r, o, w, k, h => by rw [World.setCells, heap_setCells_other b r _ _ _ h, Below.heap_setCell _ _ _ _ h]
theorem size_setCells (b : Nat) : ∀ (vs : List Value) (o : Nat) (w : World), (w.setCells b o vs).heap.size = w.heap.size
  | [], _, _ => rfl
  | v :: r, o, w => by rw [World.setCells, size_setCells b r]; simp [World.setCell]
theorem Holds.setCell {w : World} {b cs} (h : Holds w b cs) (o : Nat) (v : Value) : Holds (w.setCell ⟨b, o, none⟩ v) b (cs.set o v) := by
  obtain ⟨T, lo, hi, h1, h2⟩ := h
  refine ⟨T, lo, hi, ?_, by simpa using h2⟩
  simp [World.setCell, Array.getElem?_modify, h1]
theorem splice_set {α : Type} (cs r : List α) (v : α) (o : Nat) (l : o + (r.length + 1) ≤ cs.length) :
    (cs.set o v).take (o + 1) ++ (r ++ (cs.set o v).drop (o + 1 + r.length)) = cs.take o ++ (v :: r ++ cs.drop (o + (r.length + 1))) := by
  rw [List.drop_set_of_lt (by omega), show o + 1 + r.length = o + (r.length + 1) by omega]
  have : (cs.set o v).take (o + 1) = cs.take o ++ [v] := by
    rw [List.set_eq_take_append_cons_drop, if_pos (by omega), List.take_append]
    simp [Nat.min_eq_left (show o ≤ cs.length by omega), List.take_take, Nat.min_eq_right (show o ≤ o + 1 by omega)]
  rw [this]; simp
theorem Holds.setCells {b : Nat} : ∀ (vs : List Value) (o : Nat) {w : World} {cs}, Holds w b cs → o + vs.length ≤ cs.length → Holds (w.setCells b o vs) b (cs.take o ++ (vs ++ cs.drop (o + vs.length)))
  | [], o, w, cs, h, _ => by simpa [World.setCells] using h
  | v :: r, o, w, cs, h, l => by
    simp only [List.length_cons] at l
    have := Holds.setCells r (o + 1) (h.setCell o v) (by simp; omega)
    rw [World.setCells]
    have e := splice_set cs r v o l
    rw [e] at this
    simpa using this
theorem Holds.alloc (w : World) (c : Array Value) (T : TypeId) : Holds (w.alloc (.cells c T)) w.heap.size c.toList := by
  refine ⟨T, 0, 0, ?_, Nat.le_refl _, by omega⟩
  show (w.heap.push _)[w.heap.size]? = _
  simp
end Go.Mc
