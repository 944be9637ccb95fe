/- Abstract values and contracts of calls of the program: a part of the logic in which the claim is proved; it states nothing of the program by itself. -/
import Derived.Test.YtineemehkodlmaaDoorT2
set_option linter.all false
namespace Go.Mc
open Go.RowKit (Below)

inductive BlkOk (G : Ghost) (w : World) (k : Nat) : Blk → Prop
  | obj {a x b rest} : Val G a x → Ones x.cells.toList → G.bl k = some b → G.ow k = some b → Holds w b (x.cells.toList ++ rest) → (∀ o, G.mem b o = none) → BlkOk G w k (.obj a)
  | froz {a x b} : Val G a x → G.bl k = some b → (∀ i (h : i < x.cells.size), G.mem b i = some x.cells[i]) → BlkOk G w k (.froz a)
  | shared {sz n s} : G.rv k n = some s → (∀ i, n < i → G.rv k i = none) → (s = .slice none 0 0 ∧ n = 0 ∨ ∃ a, s = .slice (some a) n n) → BlkOk G w k (.tok sz n)
  | owned {sz n b cap cs} : G.rv k n = some (.slice (some ⟨b, 0, none⟩) n cap) → (∀ i, n < i → G.rv k i = none) → G.ow k = some b → Holds w b cs → cs.length = cap * sz → n ≤ cap → (∀ o, n * sz ≤ o → G.mem b o = none) → BlkOk G w k (.tok sz n)
  | dead : BlkOk G w k .dead

structure St (gl : Nat → Option AV) (G : Ghost) (H : List Blk) (w : World) : Prop where
  base : Below G.base.heap.size G.base w
  mem : ∀ b o v, G.mem b o = some v → w.cell? ⟨b, o, none⟩ = some v
  sup : G.Sup H.length
  own : ∀ k b, G.ow k = some b → k < H.length ∧ G.base.heap.size ≤ b ∧ b < w.heap.size
  inj : ∀ k k' b, G.ow k = some b → G.ow k' = some b → k = k'
  blk : ∀ k B, H[k]? = some B → BlkOk G w k B
  lt : ∀ k (B : Blk), H[k]? = some B → B.lt k
  gl : ∀ g a, gl g = some a → a.lt 0 ∧ ∃ x, Val G a x ∧ ∀ i (h : i < x.cells.size), G.mem g i = some x.cells[i]

/-- a block that nobody tracks and nobody reads -/
structure Idle (G : Ghost) (w : World) (b : Nat) : Prop where
  ow : ∀ k, G.ow k ≠ some b
  mem : ∀ o, G.mem b o = none
  ge : G.base.heap.size ≤ b
  lt : b < w.heap.size

/-- from (G, w) to (G', w'): names below m keep their meaning, what was idle is so still and has not turned -/
structure Ext (m : Nat) (G : Ghost) (w : World) (G' : Ghost) (w' : World) : Prop where
  le : G.Le m G'
  size : w.heap.size ≤ w'.heap.size
  idle : ∀ b, Idle G w b → w'.heap[b]? = w.heap[b]? ∧ Idle G' w' b

theorem Ext.refl (m : Nat) (G : Ghost) (w : World) : Ext m G w G w := ⟨.refl _ _, Nat.le_refl _, fun _ h => ⟨rfl, h⟩⟩
theorem Ext.trans {m : Nat} {G G1 G2 : Ghost} {w w1 w2 : World} (h : Ext m G w G1 w1) (k : Ext m G1 w1 G2 w2) : Ext m G w G2 w2 :=
  ⟨h.le.trans k.le, Nat.le_trans h.size k.size, fun b hb => ⟨(k.idle b (h.idle b hb).2).1.trans (h.idle b hb).1, (k.idle b (h.idle b hb).2).2⟩⟩
theorem Ext.down {m n : Nat} {G G' : Ghost} {w w' : World} (h : Ext n G w G' w') (l : m ≤ n) : Ext m G w G' w' := ⟨h.le.down l, h.size, h.idle⟩

section
variable {gl : Nat → Option AV} {G G' : Ghost} {H : List Blk} {w w' : World}

theorem BlkOk.keep {k : Nat} {B : Blk} {n : Nat} (s : G.Sup n) (l : G.Le n G') (hrv : ∀ i, G'.rv k i = G.rv k i)
    (ho : ∀ b, G.ow k = some b → G'.ow k = some b ∧ w'.heap[b]? = w.heap[b]? ∧ ∀ o, G'.mem b o = G.mem b o) (h : BlkOk G w k B) : BlkOk G' w' k B := by
  cases h with
  | obj hv h1 hb hw hh hm =>
    obtain ⟨e1, e2, e3⟩ := ho _ hw
    exact .obj (hv.mono l s) h1 (l.bl _ _ (s.1 _ _ hb) hb) e1 (hh.of_heap e2) (fun o => (e3 o).trans (hm o))
  | froz hv hb hm => exact .froz (hv.mono l s) (l.bl _ _ (s.1 _ _ hb) hb) (fun i hi => l.mem _ _ _ (hm i hi))
  | shared hr hz hs => exact .shared ((hrv _).trans hr) (fun i q => (hrv i).trans (hz i q)) hs
  | owned hr hz hw hh hl hn hm =>
    obtain ⟨e1, e2, e3⟩ := ho _ hw
    exact .owned ((hrv _).trans hr) (fun i q => (hrv i).trans (hz i q)) e1 (hh.of_heap e2) hl hn (fun o h => (e3 o).trans (hm o h))
  | dead => exact .dead

theorem St.mem_lt (h : St gl G H w) {b o v} (e : G.mem b o = some v) : b < w.heap.size := by
  have := h.mem b o v e
  simp only [World.cell?] at this
  rcases Nat.lt_or_ge b w.heap.size with l | l
  · exact l
  · rw [Array.getElem?_eq_none l] at this; simp at this

theorem cell?_of_heap {w w' : World} {b o : Nat} (e : w'.heap[b]? = w.heap[b]?) : w'.cell? ⟨b, o, none⟩ = w.cell? ⟨b, o, none⟩ := by simp [World.cell?, e]

theorem heap_alloc_lt (w : World) (o : Obj) {b : Nat} (h : b < w.heap.size) : (w.alloc o).heap[b]? = w.heap[b]? := Below.heap_alloc w o b h

/-- the end of a row that is no argument's is marked -/
theorem St.mark (h : St gl G H w) {b n : Nat} (hb : G.base.heap.size ≤ b) (hn : ∀ T m, w.shape? b = some (T, m) → n = m) : St gl G H (w.freeze ⟨b, n, none⟩ 1) := by
  refine ⟨⟨h.base.os, h.base.tape, h.base.output, by rw [freeze_size]; exact h.base.size, fun k hk => ?_⟩, fun c o v e => by rw [freeze_cell]; exact h.mem c o v e, h.sup, fun k c e => ?_, h.inj, fun k B e => ?_, h.lt, h.gl⟩
  · rw [freeze_heap w b n k (by omega)]; exact h.base.block k hk
  · rw [freeze_size]; exact h.own k c e
  · have hB := h.blk k B e
    cases hB with
    | obj hv h1 hb hw hh hm => exact .obj hv h1 hb hw (hh.freeze hn) hm
    | froz hv hb hm => exact .froz hv hb hm
    | shared hr hz hs => exact .shared hr hz hs
    | owned hr hz hw hh hl hn' hm => exact .owned hr hz hw (hh.freeze hn) hl hn' hm
    | dead => exact .dead
theorem Ext.mark (m : Nat) (G : Ghost) (w : World) {b n o : Nat} {v : Value} (hm : G.mem b o = some v) : Ext m G w G (w.freeze ⟨b, n, none⟩ 1) :=
  ⟨.refl _ _, by rw [freeze_size]; exact Nat.le_refl _, fun c hc => by
    have hne : c ≠ b := fun q => by subst q; rw [hc.mem] at hm; simp at hm
    exact ⟨freeze_heap w b n c hne, hc.ow, hc.mem, hc.ge, by rw [freeze_size]; exact hc.lt⟩⟩
/-- a new block that nobody tracks -/
theorem St.alloc (h : St gl G H w) (o : Obj) : St gl G H (w.alloc o) where
  base := h.base.alloc (h.base.size) o
  mem b i v e := by rw [cell?_of_heap (heap_alloc_lt w o (h.mem_lt e))]; exact h.mem b i v e
  sup := h.sup
  own k b e := by have := h.own k b e; simp; omega
  inj := h.inj
  blk k B e := (h.blk k B e).keep h.sup (.refl _ _) (fun _ => rfl) fun b hb => ⟨hb, heap_alloc_lt w o (h.own k b hb).2.2, fun _ => rfl⟩
  lt := h.lt
  gl := h.gl
theorem Ext.alloc (n : Nat) (G : Ghost) (w : World) (o : Obj) : Ext n G w G (w.alloc o) :=
  ⟨.refl _ _, by simp, fun b hb => ⟨heap_alloc_lt w o hb.lt, hb.ow, hb.mem, hb.ge, by have := hb.lt; simp; omega⟩⟩
theorem St.idle_new (h : St gl G H w) (o : Obj) : Idle G (w.alloc o) w.heap.size where
  ow k e := by have := (h.own k _ e).2.2; omega
  mem i := by
    cases e : G.mem w.heap.size i with
    | none => rfl
    | some v => have := h.mem_lt e; omega
  ge := h.base.size
  lt := by simp
/-- a draw turns nothing -/
theorem St.drew (h : St gl G H w) : St gl G H w.drew := ⟨h.base.drew, h.mem, h.sup, h.own, h.inj, fun k B e => BlkOk.keep (w := w) h.sup (.refl _ _) (fun _ => rfl) (fun b hb => ⟨hb, rfl, fun _ => rfl⟩) (h.blk k B e), h.lt, h.gl⟩
theorem Ext.drew (n : Nat) (G : Ghost) (w : World) : Ext n G w G w.drew := ⟨.refl _ _, Nat.le_refl _, fun _ hb => ⟨rfl, hb.ow, hb.mem, hb.ge, hb.lt⟩⟩

def Ghost.addObj (G : Ghost) (k b : Nat) : Ghost := { G with bl := fun j => if j = k then some b else G.bl j, ow := fun j => if j = k then some b else G.ow j }

theorem Ghost.addObj_le (G : Ghost) (k b : Nat) : G.Le k (G.addObj k b) :=
  ⟨rfl, fun _ _ _ h => h, fun j c l h => by simp [Ghost.addObj, Nat.ne_of_lt l, h], fun _ _ _ _ h => h⟩

/-- an idle block becomes a tracked object -/
theorem St.adoptR (h : St gl G H w) {a : AV} {x : Value} {b : Nat} {rest : List Value} (hi : Idle G w b) (hv : Val G a x) (h1 : Ones x.cells.toList) (hh : Holds w b (x.cells.toList ++ rest)) :
    St gl (G.addObj H.length b) (H ++ [.obj a]) w := by
  have le := G.addObj_le H.length b
  refine ⟨h.base, h.mem, ⟨?_, ?_⟩, ?_, ?_, ?_, ?_, ?_⟩
  · intro k c e
    simp only [Ghost.addObj] at e
    split at e
    · simp; omega
    · have := h.sup.1 _ _ e; simp; omega
  · intro k i s e
    have := h.sup.2 _ _ _ e; simp; omega
  · intro k c e
    simp only [Ghost.addObj] at e
    split at e
    · cases e; rename_i e'; subst e'; exact ⟨by simp, hi.ge, hi.lt⟩
    · have := h.own _ _ e; exact ⟨by simp; omega, this.2⟩
  · intro k k' c e e'
    simp only [Ghost.addObj] at e e'
    split at e <;> split at e'
    · omega
    · cases e; exact absurd e' (hi.ow _)
    · cases e'; exact absurd e (hi.ow _)
    · exact h.inj _ _ _ e e'
  · intro k B e
    rw [List.getElem?_append] at e
    split at e
    · rename_i l
      refine (h.blk k B e).keep h.sup le (fun _ => rfl) fun c hc => ⟨?_, rfl, fun _ => rfl⟩
      simp [Ghost.addObj, Nat.ne_of_lt l, hc]
    · rename_i l
      have : k = H.length := by
        rcases Nat.lt_or_ge (k - H.length) 1 with q | q
        · omega
        · rw [List.getElem?_eq_none (by simpa using q)] at e; simp at e
      subst this
      simp only [Nat.sub_self, List.getElem?_cons_zero, Option.some.injEq] at e
      subst e
      exact .obj (hv.mono le h.sup) h1 (by simp [Ghost.addObj]) (by simp [Ghost.addObj]) hh hi.mem
  · intro k B e
    rw [List.getElem?_append] at e
    split at e
    · exact h.lt k B e
    · have : k = H.length := by
        rcases Nat.lt_or_ge (k - H.length) 1 with q | q
        · omega
        · rw [List.getElem?_eq_none (by simpa using q)] at e; simp at e
      subst this
      simp only [Nat.sub_self, List.getElem?_cons_zero, Option.some.injEq] at e
      subst e
      exact hv.lt h.sup
  · intro g a' e
    obtain ⟨h0, y, hy, hm⟩ := h.gl g a' e
    exact ⟨h0, y, hy.mono le h.sup, hm⟩
theorem St.adopt (h : St gl G H w) {a : AV} {x : Value} {b : Nat} (hi : Idle G w b) (hv : Val G a x) (h1 : Ones x.cells.toList) (hh : Holds w b x.cells.toList) :
    St gl (G.addObj H.length b) (H ++ [.obj a]) w := h.adoptR (rest := []) hi hv h1 (by simpa using hh)


/-- a new tracked object -/
theorem St.new_obj (h : St gl G H w) {a : AV} {x : Value} (hv : Val G a x) (h1 : Ones x.cells.toList) (T : TypeId) :
    St gl (G.addObj H.length w.heap.size) (H ++ [.obj a]) (w.alloc (.cells x.cells T)) ∧ Ext H.length G w (G.addObj H.length w.heap.size) (w.alloc (.cells x.cells T)) ∧
      Val (G.addObj H.length w.heap.size) (.ptr H.length [] 0) (.pointer (some ⟨w.heap.size, 0, none⟩)) := by
  have hs := (h.alloc (.cells x.cells T)).adopt (h.idle_new _) hv h1 (Holds.alloc w x.cells T)
  refine ⟨hs, ⟨G.addObj_le _ _, by simp, fun b hb => ⟨heap_alloc_lt w _ hb.lt, fun k e => ?_, hb.mem, hb.ge, by have := hb.lt; simp; omega⟩⟩, .ptr (by simp [Ghost.addObj])⟩
  simp only [Ghost.addObj] at e
  split at e
  · cases e; exact absurd hb.lt (by omega)
  · exact hb.ow _ e

def Ghost.publish (G : Ghost) (b : Nat) (cs : List Value) : Ghost := { G with mem := fun c o => if c = b then cs[o]? else G.mem c o }

/-- an idle block becomes memory that is read and never written -/
theorem St.publish (h : St gl G H w) {b : Nat} {cs : List Value} (hi : Idle G w b) (hh : Holds w b cs) : St gl (G.publish b cs) H w ∧ ∀ n, G.Le n (G.publish b cs) := by
  have le : ∀ n, G.Le n (G.publish b cs) := fun n => ⟨rfl, fun c o v e => by
    simp only [Ghost.publish]
    split
    · rename_i e'; subst e'; rw [hi.mem] at e; simp at e
    · exact e, fun _ _ _ e => e, fun _ _ _ _ e => e⟩
  refine ⟨⟨h.base, ?_, h.sup, h.own, h.inj, ?_, h.lt, ?_⟩, le⟩
  · intro c o v e
    simp only [Ghost.publish] at e
    split at e
    · rename_i e'; subst e'; rw [hh.cell]; exact e
    · exact h.mem c o v e
  · intro k B e
    refine (h.blk k B e).keep h.sup (le _) (fun _ => rfl) fun c hc => ⟨hc, rfl, fun o => ?_⟩
    have : c ≠ b := fun q => hi.ow k (q ▸ hc)
    simp [Ghost.publish, this]
  · intro g a e
    obtain ⟨h0, x, hx, hm⟩ := h.gl g a e
    exact ⟨h0, x, hx.mono (le _) h.sup, fun i hi => (le 0).mem _ _ _ (hm i hi)⟩

/-- new memory that is read and never written -/
theorem St.new_ro (h : St gl G H w) (c : Array Value) (T : TypeId) :
    ∃ G', St gl G' H (w.alloc (.cells c T)) ∧ (∀ n, Ext n G w G' (w.alloc (.cells c T))) ∧ ∀ i (hi : i < c.toList.length), G'.mem w.heap.size (0 + i) = some c.toList[i] := by
  obtain ⟨hs, le⟩ := (h.alloc (.cells c T)).publish (h.idle_new _) (Holds.alloc w c T)
  refine ⟨_, hs, fun n => ⟨le n, by simp, fun b hb => ⟨heap_alloc_lt w _ hb.lt, hb.ow, fun o => ?_, hb.ge, by have := hb.lt; simp; omega⟩⟩, fun i hi => ?_⟩
  · have : b ≠ w.heap.size := by have := hb.lt; omega
    simp [Ghost.publish, this, hb.mem]
  · simp [Ghost.publish]

/-- an object is read -/
theorem St.load (h : St gl G H w) {k b off : Nat} {p : List Nat} {a c : AV} (hk : H[k]? = some (.obj a) ∨ H[k]? = some (.froz a)) (hb : G.bl k = some b) (hs : sub p a 0 = some (off, c)) :
    ∃ z, Val G c z ∧ ∀ i v, z.cells.toList[i]? = some v → w.cell? ⟨b, off + i, none⟩ = some v := by
  have : ∃ x, Val G a x ∧ ∀ i v, x.cells.toList[i]? = some v → w.cell? ⟨b, i, none⟩ = some v := by
    rcases hk with hk | hk
    · have := h.blk k _ hk
      cases this with
      | obj hv _ hb' _ hh _ =>
        rw [hb] at hb'; cases hb'
        exact ⟨_, hv, fun i v e => hh.cell.trans (by rw [List.getElem?_append_left (List.getElem?_eq_some_iff.1 e).1]; exact e)⟩
    · have := h.blk k _ hk
      cases this with
      | froz hv hb' hm =>
        rw [hb] at hb'; cases hb'
        refine ⟨_, hv, fun i v e => h.mem _ _ _ ?_⟩
        obtain ⟨hi, e⟩ := List.getElem?_eq_some_iff.1 e
        rw [hm i (by simpa using hi)]; simpa using e
  obtain ⟨x, hv, hc⟩ := this
  obtain ⟨y, d, e, hy, hle, hw, -⟩ := sub_upd p hv hs
  refine ⟨y, hy, fun i v ev => ?_⟩
  rw [e, Nat.zero_add]
  apply hc
  rw [← hw] at ev
  rw [List.getElem?_take] at ev
  split at ev
  · rwa [List.getElem?_drop] at ev
  · simp at ev

/-- an object is written -/
theorem St.store (h : St gl G H w) {k b off : Nat} {p : List Nat} {a c y : AV} {z : Value} (hk : H[k]? = some (.obj a)) (hb : G.bl k = some b) (hs : sub p a 0 = some (off, y))
    (hc : Val G c z) (h1 : Ones z.cells.toList) (hz : ∀ u, Val G y u → u.cells.size = z.cells.size) (hu : (upd p a c).lt k) :
    St gl G (H.set k (.obj (upd p a c))) (w.setCells b off z.cells.toList) ∧ (∀ n, Ext n G w G (w.setCells b off z.cells.toList)) ∧
      (∀ j, j < z.cells.toList.length → (w.cell? ⟨b, off + j, none⟩).isSome = true) ∧ (∀ j, j < z.cells.toList.length → w.frozen? ⟨b, off + j, none⟩ = false) := by
  have hB := h.blk k _ hk
  cases hB with
  | obj hv ho hb' hw hh hm =>
    rw [hb] at hb'; cases hb'
    rename_i x rest
    obtain ⟨u, d, e, hy, hle, -, hupd⟩ := sub_upd p hv hs
    rw [Nat.zero_add] at e; subst e
    have hsz := hz u hy
    obtain ⟨x', hx', ho', hs', hc'⟩ := hupd c z hc h1 ho hsz.symm
    have hfit : off + z.cells.toList.length ≤ x.cells.toList.length := by simp; omega
    have hh' := Holds.setCells z.cells.toList off hh (by rw [List.length_append]; omega)
    have hoth : ∀ j c', G.ow j = some c' → j ≠ k → (w.setCells b off z.cells.toList).heap[c']? = w.heap[c']? := fun j c' e hj =>
      heap_setCells_other b _ _ _ _ fun q => hj (h.inj j k b (q ▸ e) hw)
    have hob := h.own k b hw
    refine ⟨⟨?_, ?_, by simpa using h.sup, ?_, h.inj, ?_, ?_, h.gl⟩, fun n => ⟨.refl _ _, by rw [size_setCells]; exact Nat.le_refl _, fun c' hi => ?_⟩, ?_, ?_⟩
    · have : ∀ (vs : List Value) (o : Nat) (w : World), Below G.base.heap.size G.base w → Below G.base.heap.size G.base (w.setCells b o vs) := by
        intro vs
        induction vs with
        | nil => intro o w hB; exact hB
        | cons v r ih => intro o w hB; exact ih _ _ (hB.setCell hob.2.1 v)
      exact this _ _ _ h.base
    · intro c' o v e
      have : c' ≠ b := fun q => by subst q; rw [hm] at e; simp at e
      rw [cell?_of_heap (heap_setCells_other b _ _ _ _ this)]
      exact h.mem _ _ _ e
    · intro j c' e
      have := h.own j c' e
      rw [size_setCells]; simpa using this
    · intro j B e
      rw [List.getElem?_set] at e
      split at e
      · rename_i q; subst q
        split at e
        · cases e
          refine .obj (rest := rest) hx' ho' hb hw ?_ hm
          rw [hc', hsz]
          rw [List.take_append_of_le_length (by omega), List.drop_append_of_le_length (by omega)] at hh'
          simpa using hh'
        · simp at e
      · rename_i q
        exact (h.blk j B e).keep h.sup (.refl _ _) (fun _ => rfl) fun c' hc => ⟨hc, hoth j c' hc (Ne.symm q), fun _ => rfl⟩
    · intro j B e
      rw [List.getElem?_set] at e
      split at e
      · rename_i q; subst q
        split at e
        · cases e; exact hu
        · simp at e
      · exact h.lt j B e
    · refine ⟨heap_setCells_other b _ _ _ _ fun q => hi.ow k (q ▸ hw), hi.ow, hi.mem, hi.ge, by rw [size_setCells]; exact hi.lt⟩
    · intro j hj
      rw [hh.cell, List.getElem?_eq_getElem (by rw [List.length_append]; omega)]; rfl
    · intro j hj
      exact hh.free (by rw [List.length_append]; omega)

/-- an object becomes memory that is never written again -/
theorem St.freeze (h : St gl G H w) {k : Nat} {a : AV} (hk : H[k]? = some (.obj a)) : ∃ G', St gl G' (H.set k (.froz a)) w ∧ ∀ n, Ext n G w G' w := by
  have hB := h.blk k _ hk
  cases hB with
  | obj hv ho hb hw hh hm =>
    rename_i x b rest
    let G' : Ghost := { G with mem := fun c o => if c = b then x.cells.toList[o]? else G.mem c o, ow := fun j => if j = k then none else G.ow j }
    have le : ∀ n, G.Le n G' := fun n => ⟨rfl, fun c o v e => by
      have : c ≠ b := fun q => by subst q; rw [hm] at e; simp at e
      simp [G', this, e], fun _ _ _ e => e, fun _ _ _ _ e => e⟩
    refine ⟨G', ⟨h.base, ?_, by simpa using (show G'.Sup H.length from h.sup), ?_, ?_, ?_, ?_, ?_⟩, fun n => ⟨le n, Nat.le_refl _, fun c hi => ⟨rfl, fun j e => ?_, fun o => ?_, hi.ge, hi.lt⟩⟩⟩
    · intro c o v e
      simp only [G'] at e
      split at e
      · rename_i q; subst q; rw [hh.cell, List.getElem?_append_left (List.getElem?_eq_some_iff.1 e).1]; exact e
      · exact h.mem _ _ _ e
    · intro j c e
      simp only [G'] at e
      split at e
      · simp at e
      · have := h.own j c e; simpa using this
    · intro j j' c e e'
      simp only [G'] at e e'
      split at e
      · simp at e
      · split at e'
        · simp at e'
        · exact h.inj _ _ _ e e'
    · intro j B e
      rw [List.getElem?_set] at e
      split at e
      · rename_i q; subst q
        split at e
        · cases e
          refine .froz (hv.mono (le _) h.sup) hb fun i hi => ?_
          simp [G', hi]
        · simp at e
      · rename_i q
        refine (h.blk j B e).keep h.sup (le _) (fun _ => rfl) fun c hc => ⟨by simp [G', Ne.symm q, hc], rfl, fun o => ?_⟩
        have : c ≠ b := fun q' => q (h.inj k j b hw (q' ▸ hc))
        simp [G', this]
    · intro j B e
      rw [List.getElem?_set] at e
      split at e
      · rename_i q; subst q
        split at e
        · cases e; exact h.lt k (.obj a) hk
        · simp at e
      · exact h.lt j B e
    · intro g a' e
      obtain ⟨h0, y, hy, hm'⟩ := h.gl g a' e
      exact ⟨h0, y, hy.mono (le _) h.sup, fun i hi => (le 0).mem _ _ _ (hm' i hi)⟩
    · simp only [G'] at e
      split at e
      · simp at e
      · exact hi.ow _ e
    · have : c ≠ b := fun q => hi.ow k (q ▸ hw)
      simp [G', this, hi.mem]

/-- the last names are forgotten -/
theorem St.drop (h : St gl G H w) {n : Nat} (hn : n ≤ H.length) : St gl (G.cut n) (H.take n) w := by
  refine ⟨h.base, h.mem, ⟨?_, ?_⟩, ?_, ?_, ?_, ?_, ?_⟩
  · intro k b e
    simp only [Ghost.cut] at e
    split at e
    · simp; omega
    · simp at e
  · intro k i s e
    simp only [Ghost.cut] at e
    split at e
    · simp; omega
    · simp at e
  · intro k b e
    simp only [Ghost.cut] at e
    split at e
    · have := h.own k b e; exact ⟨by simp; omega, this.2⟩
    · simp at e
  · intro k k' b e e'
    simp only [Ghost.cut] at e e'
    split at e
    · split at e'
      · exact h.inj _ _ _ e e'
      · simp at e'
    · simp at e
  · intro k B e
    rw [List.getElem?_take] at e
    split at e
    · rename_i l
      have hlt := h.lt k B e
      have hB := h.blk k B e
      cases hB with
      | obj hv h1 hb hw hh hm => exact .obj (hv.cut (AV.lt_mono (Nat.le_of_lt l) _ hlt)) h1 (by simp [Ghost.cut, l, hb]) (by simp [Ghost.cut, l, hw]) hh hm
      | froz hv hb hm => exact .froz (hv.cut (AV.lt_mono (Nat.le_of_lt l) _ hlt)) (by simp [Ghost.cut, l, hb]) hm
      | shared hr hz hs => exact .shared (by simp [Ghost.cut, l, hr]) (fun i q => by simp [Ghost.cut, l, hz i q]) hs
      | owned hr hz hw hh hl hn hm => exact .owned (by simp [Ghost.cut, l, hr]) (fun i q => by simp [Ghost.cut, l, hz i q]) (by simp [Ghost.cut, l, hw]) hh hl hn hm
      | dead => exact .dead
    · simp at e
  · intro k B e
    rw [List.getElem?_take] at e
    split at e
    · exact h.lt k B e
    · simp at e
  · intro g a e
    obtain ⟨h0, x, hx, hm⟩ := h.gl g a e
    exact ⟨h0, x, hx.cut (AV.lt_mono (Nat.zero_le _) _ h0), hm⟩
theorem Ext.cut {m n : Nat} (l : m ≤ n) (G : Ghost) (w : World) : Ext m G w (G.cut n) w :=
  ⟨⟨rfl, fun _ _ _ e => e, fun k b q e => by simp [Ghost.cut, show k < n by omega, e], fun k i s q e => by simp [Ghost.cut, show k < n by omega, e]⟩, Nat.le_refl _,
    fun b hb => ⟨rfl, fun k e => by simp only [Ghost.cut] at e; split at e; exact hb.ow _ e; simp at e, hb.mem, hb.ge, hb.lt⟩⟩
end
end Go.Mc
