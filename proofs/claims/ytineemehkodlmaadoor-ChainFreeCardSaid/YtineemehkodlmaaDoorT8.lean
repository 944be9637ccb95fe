/- Abstract values and contracts of calls of the program: a part of the logic in which the claim is proved; it states nothing of the program by itself. -/
import Derived.Test.YtineemehkodlmaaDoorT7
set_option linter.all false
namespace Go.Mc
open Go.RowKit (Below)

/-- the heap with a block at a name, which may be the next one -/
def put (H : List Blk) (k : Nat) (B : Blk) : List Blk := if k < H.length then H.set k B else H ++ [B]
theorem put_length {H : List Blk} {k : Nat} {B : Blk} (hk : k ≤ H.length) : H.length ≤ (put H k B).length ∧ k < (put H k B).length := by
  unfold put; split <;> simp <;> omega
theorem put_get {H : List Blk} {k : Nat} {B : Blk} (hk : k ≤ H.length) (j : Nat) : (put H k B)[j]? = if j = k then some B else H[j]? := by
  unfold put
  split
  · rename_i hlt
    rw [List.getElem?_set]
    split
    · rename_i q; rw [if_pos q.symm]
    · rename_i q; rw [if_neg (Ne.symm q)]
  · rw [List.getElem?_append]
    split
    · rw [if_neg (by omega)]
    · split
      · simp [show j - H.length = 0 by omega]
      · rw [List.getElem?_eq_none (by simp; omega), List.getElem?_eq_none (by omega)]

section
variable {gl : Nat → Option AV} {G : Ghost} {H : List Blk} {w : World}

theorem Ghost.Sup.rv_none {n : Nat} (s : G.Sup n) (i : Nat) : G.rv n i = none := by
  cases e : G.rv n i with
  | none => rfl
  | some v => have := s.2 _ _ _ e; omega

/-- an idle block becomes a row that may be appended to -/
theorem St.tok_put (h : St gl G H w) {b sz cap k : Nat} {as : List AV} {cs rest : List Value} (hi : Idle G w b) (hh : Holds w b (cs ++ rest)) (hu : ValU G sz as cs)
    (hl : (cs ++ rest).length = cap * sz) (hn : as.length ≤ cap) (hk : k ≤ H.length) (hrv : ∀ i, as.length ≤ i → G.rv k i = none) :
    ∃ G', St gl G' (put H k (.tok sz as.length)) w ∧ (∀ n, G.Le n G') ∧ (∀ c, c ≠ b → (∀ o, G'.mem c o = G.mem c o) ∧ ∀ j, G'.ow j = some c → G.ow j = some c) ∧
      Val G' (.sla sz as k) (.slice (some ⟨b, 0, none⟩) as.length cap) := by
  let G' : Ghost := { G with mem := fun c o => if c = b then cs[o]? else G.mem c o, rv := fun j i => if j = k ∧ i = as.length then some (.slice (some ⟨b, 0, none⟩) as.length cap) else G.rv j i, ow := fun j => if j = k then some b else G.ow j }
  have le : ∀ n, G.Le n G' := fun n => ⟨rfl, fun c o v e => by
    have : c ≠ b := fun q => by subst q; rw [hi.mem] at e; simp at e
    simp [G', this, e], fun _ _ _ e => e, fun j i s _ e => by
    have : ¬ (j = k ∧ i = as.length) := fun ⟨q1, q2⟩ => by subst q1 q2; rw [hrv _ (Nat.le_refl _)] at e; simp at e
    simp [G', this, e]⟩
  have hcl := hu.length
  refine ⟨G', ⟨h.base, ?_, ⟨?_, ?_⟩, ?_, ?_, ?_, ?_, ?_⟩, le, ?_, ?_⟩
  · intro c o v e
    simp only [G'] at e
    split at e
    · rename_i q; subst q
      rw [hh.cell, List.getElem?_append_left (List.getElem?_eq_some_iff.1 e).1]; exact e
    · exact h.mem _ _ _ e
  · intro j c e
    have := h.sup.1 _ _ e
    have := put_length (B := .tok sz as.length) hk
    omega
  · intro j i s e
    have hp := put_length (B := .tok sz as.length) hk
    simp only [G'] at e
    split at e
    · omega
    · have := h.sup.2 _ _ _ e; omega
  · intro j c e
    have hp := put_length (B := .tok sz as.length) hk
    simp only [G'] at e
    split at e
    · cases e; exact ⟨by omega, hi.ge, hi.lt⟩
    · have := h.own _ _ e; exact ⟨by omega, this.2⟩
  · intro j j' c e e'
    simp only [G'] at e e'
    split at e <;> split at e'
    · omega
    · cases e; exact absurd e' (hi.ow _)
    · cases e'; exact absurd e (hi.ow _)
    · exact h.inj _ _ _ e e'
  · intro j B e
    rw [put_get hk] at e
    split at e
    · rename_i q; subst q
      cases e
      refine .owned (by simp [G']) (fun i q => ?_) (by simp [G']) hh hl hn (fun o q => ?_)
      · simp only [G']; rw [if_neg (by omega)]; exact hrv i (by omega)
      · simp only [G', if_true]
        rw [List.getElem?_eq_none (by omega)]
    · rename_i q
      refine (h.blk j B e).keep h.sup (le _) (fun i => by simp [G', q]) fun c hc => ⟨by simp [G', q, hc], rfl, fun o => ?_⟩
      have : c ≠ b := fun q' => hi.ow j (q' ▸ hc)
      simp [G', this]
  · intro j B e
    rw [put_get hk] at e
    split at e
    · cases e; exact trivial
    · exact h.lt j B e
  · intro g a' e
    obtain ⟨h0, y, hy, hm⟩ := h.gl g a' e
    exact ⟨h0, y, hy.mono (le _) h.sup, fun i hi => (le 0).mem _ _ _ (hm i hi)⟩
  · intro c q
    refine ⟨fun o => by simp [G', q], fun j e => ?_⟩
    simp only [G'] at e
    split at e
    · cases e; exact absurd rfl q
    · exact e
  · refine .sla (.sl (hu.mono (le _) h.sup) (fun i hi' => ?_) hn (by simp)) (by simp [G'])
    simp [G', hi']

/-- a slice without room becomes a row that may be appended to -/
theorem St.tok_shared2 (h : St gl G H w) {sz : Nat} {as : List AV} {cl : Bool} {v : Value} (hv : Val G (.sl sz as cl) v) (hc : cl = true) :
    ∃ G', St gl G' (H ++ [.tok sz as.length]) w ∧ (∀ n, n ≤ H.length → Ext n G w G' w) ∧ Val G' (.sla sz as H.length) v ∧ G'.ow = G.ow ∧ G'.mem = G.mem ∧ G'.bl = G.bl := by
  let G' : Ghost := { G with rv := fun j i => if j = H.length ∧ i = as.length then some v else G.rv j i }
  have hnone := h.sup.rv_none
  have le : ∀ n, G.Le n G' := fun n => ⟨rfl, fun _ _ _ e => e, fun _ _ _ e => e, fun j i s _ e => by
    have : ¬ (j = H.length ∧ i = as.length) := fun ⟨q1, q2⟩ => by subst q1 q2; rw [hnone] at e; simp at e
    simp [G', this, e]⟩
  have hclip : v = .slice none 0 0 ∧ as.length = 0 ∨ ∃ a, v = .slice (some a) as.length as.length := by
    cases hv with
    | nil => exact .inl ⟨rfl, rfl⟩
    | sl _ _ _ hcap => exact .inr ⟨_, by rw [hcap hc]⟩
  refine ⟨G', ⟨h.base, h.mem, ⟨?_, ?_⟩, ?_, h.inj, ?_, ?_, ?_⟩, fun n _ => ⟨le n, Nat.le_refl _, fun b hb => ⟨rfl, hb.ow, hb.mem, hb.ge, hb.lt⟩⟩, ?_, rfl, rfl, rfl⟩
  · intro j c e; have := h.sup.1 _ _ e; simp; omega
  · intro j i s e
    simp only [G'] at e
    split at e
    · simp; omega
    · have := h.sup.2 _ _ _ e; simp; omega
  · intro j c e; have := h.own _ _ e; exact ⟨by simp; omega, this.2⟩
  · intro j B e
    have e' := put_get (H := H) (B := .tok sz as.length) (Nat.le_refl H.length) j
    simp only [put, Nat.lt_irrefl, if_false] at e'
    rw [e'] at e
    split at e
    · rename_i q; subst q
      cases e
      refine .shared (s := v) (by simp [G']) (fun i q => ?_) hclip
      simp only [G']; rw [if_neg (by omega)]; exact hnone i
    · rename_i q
      exact (h.blk j B e).keep h.sup (le _) (fun i => by simp [G', q]) fun c hc => ⟨hc, rfl, fun _ => rfl⟩
  · intro j B e
    have e' := put_get (H := H) (B := .tok sz as.length) (Nat.le_refl H.length) j
    simp only [put, Nat.lt_irrefl, if_false] at e'
    rw [e'] at e
    split at e
    · cases e; exact trivial
    · exact h.lt j B e
  · intro g a' e
    obtain ⟨h0, y, hy, hm⟩ := h.gl g a' e
    exact ⟨h0, y, hy.mono (le _) h.sup, hm⟩
  · refine .sla ?_ (by simp [G'])
    have := hv.mono (le _) h.sup
    cases this with
    | nil => exact .nil
    | sl a b c _ => exact .sl a b c (by simp)

/-- a row is appended to in place -/

theorem St.tok_shared (h : St gl G H w) {sz : Nat} {as : List AV} {cl : Bool} {v : Value} (hv : Val G (.sl sz as cl) v) (hc : cl = true) :
    ∃ G', St gl G' (H ++ [.tok sz as.length]) w ∧ (∀ n, n ≤ H.length → Ext n G w G' w) ∧ Val G' (.sla sz as H.length) v := by
  obtain ⟨G', h1, h2, h3, -⟩ := h.tok_shared2 hv hc
  exact ⟨G', h1, h2, h3⟩

theorem St.tok_room (h : St gl G H w) {k b sz cap : Nat} {as ys : List AV} {news : List Value} (hk : H[k]? = some (.tok sz as.length)) (hv : Val G (.sla sz as k) (.slice (some ⟨b, 0, none⟩) as.length cap)) (hb : G.ow k = some b)
    (hu : ValU G sz ys news) (hroom : as.length + ys.length ≤ cap) (h0 : 0 < ys.length) :
    ∃ G', St gl G' (put H k (.tok sz (as ++ ys).length)) (w.setCells b (0 + as.length * sz) news) ∧ (∀ n, Ext n G w G' (w.setCells b (0 + as.length * sz) news)) ∧
      Val G' (.sla sz (as ++ ys) k) (.slice (some ⟨b, 0, none⟩) (as.length + ys.length) cap) ∧
      (∀ j, j < news.length → (w.cell? ⟨b, 0 + as.length * sz + j, none⟩).isSome = true) ∧ (∀ j, j < news.length → w.frozen? ⟨b, 0 + as.length * sz + j, none⟩ = false) := by
  have hB := h.blk k _ hk
  have hkl : k < H.length := (List.getElem?_eq_some_iff.1 hk).1
  cases hv with
  | sla hv hrv =>
  cases hB with
  | shared hr hz hs =>
    rw [hrv] at hr
    cases hr
    rcases hs with ⟨e, -⟩ | ⟨a, e⟩ <;> simp at e
    omega
  | owned hr hz hw hh hl hn hm =>
    rw [hrv] at hr
    simp only [Option.some.injEq, Value.slice.injEq, Addr.mk.injEq] at hr
    obtain ⟨⟨rfl, -, -⟩, -, rfl⟩ := hr
    rename_i olds
    have hnl := hu.length
    have hfit : 0 + as.length * sz + news.length ≤ olds.length := by
      rw [hl, hnl, Nat.zero_add, ← Nat.add_mul]; exact Nat.mul_le_mul_right _ hroom
    have hh' := Holds.setCells news (0 + as.length * sz) hh hfit
    let G' : Ghost := { G with mem := fun c o => if c = b ∧ as.length * sz ≤ o ∧ o < as.length * sz + news.length then news[o - as.length * sz]? else G.mem c o,
                                rv := fun j i => if j = k ∧ i = as.length + ys.length then some (.slice (some ⟨b, 0, none⟩) (as.length + ys.length) cap) else G.rv j i }
    have le : ∀ n, G.Le n G' := fun n => ⟨rfl, fun c o v e => by
      have : ¬ (c = b ∧ as.length * sz ≤ o ∧ o < as.length * sz + news.length) := fun ⟨q, q1, _⟩ => by subst q; rw [hm o q1] at e; simp at e
      simp only [G', if_neg this, e], fun _ _ _ e => e, fun j i s _ e => by
      have : ¬ (j = k ∧ i = as.length + ys.length) := fun ⟨q1, q2⟩ => by subst q1 q2; rw [hz _ (by omega)] at e; simp at e
      simp only [G', if_neg this, e]⟩
    have hother : ∀ j c, j ≠ k → G.ow j = some c → c ≠ b := fun j c q e q' => q (h.inj j k b (q' ▸ e) hw)
    have hcell : ∀ o, (w.setCells b (0 + as.length * sz) news).cell? ⟨b, o, none⟩ = (olds.take (as.length * sz) ++ (news ++ olds.drop (as.length * sz + news.length)))[o]? := by
      intro o; rw [hh'.cell]; simp
    have hob := h.own k b hw
    have hpl := put_length (B := .tok sz (as ++ ys).length) (Nat.le_of_lt hkl)
    refine ⟨G', ⟨?_, ?_, ⟨?_, ?_⟩, ?_, h.inj, ?_, ?_, ?_⟩, fun n => ⟨le n, by rw [size_setCells]; exact Nat.le_refl _, fun c hi => ?_⟩, ?_, ?_, ?_⟩
    · have : ∀ (vs : List Value) (o : Nat) (w : World), Below G.base.heap.size G.base w → Below G.base.heap.size G.base (w.setCells b o vs) := by
        intro vs
        induction vs with
        | nil => intro o w hB; exact hB
        | cons v r ih => intro o w hB; exact ih _ _ (hB.setCell hob.2.1 v)
      exact this _ _ _ h.base
    · intro c o v e
      simp only [G'] at e
      split at e
      · rename_i q; obtain ⟨rfl, q1, q2⟩ := q
        rw [hcell, List.getElem?_append_right (by simp; omega), List.getElem?_append_left (by simp; omega)]
        rw [← e]; congr 1; simp; omega
      · rename_i q
        by_cases hcb : c = b
        · subst hcb
          have ho : o < as.length * sz := by
            rcases Nat.lt_or_ge o (as.length * sz) with l | l
            · exact l
            · rw [hm o l] at e; simp at e
          have := h.mem _ _ _ e
          rw [hh.cell] at this
          rw [hcell, List.getElem?_append_left (by simp; omega), List.getElem?_take, if_pos ho]
          exact this
        · rw [cell?_of_heap (heap_setCells_other b _ _ _ _ hcb)]
          exact h.mem _ _ _ e
    · intro j c e; have := h.sup.1 _ _ e; omega
    · intro j i s e
      simp only [G'] at e
      split at e
      · omega
      · have := h.sup.2 _ _ _ e; omega
    · intro j c e
      have := h.own _ _ e
      rw [size_setCells]; exact ⟨by omega, this.2⟩
    · intro j B e
      rw [put_get (Nat.le_of_lt hkl)] at e
      split at e
      · rename_i q; subst q
        cases e
        refine .owned (b := b) (cap := cap) (by simp [G']) (fun i q => ?_) hw hh' ?_ (by simpa using hroom) (fun o q => ?_)
        · simp only [List.length_append] at q
          simp only [G']; rw [if_neg (by omega)]; exact hz i (by omega)
        · simp only [List.length_append, List.length_take, List.length_drop]; omega
        · simp only [List.length_append, Nat.add_mul] at q
          simp only [G']; rw [if_neg (by omega)]; exact hm o (by omega)
      · rename_i q
        refine (h.blk j B e).keep h.sup (le _) (fun i => by simp [G', q]) fun c hc => ⟨hc, heap_setCells_other b _ _ _ _ (hother j c q hc), fun o => ?_⟩
        have := hother j c q hc
        simp [G', this]
    · intro j B e
      rw [put_get (Nat.le_of_lt hkl)] at e
      split at e
      · cases e; exact trivial
      · exact h.lt j B e
    · intro g a' e
      obtain ⟨h0, y, hy, hm⟩ := h.gl g a' e
      exact ⟨h0, y, hy.mono (le _) h.sup, fun i hi => (le 0).mem _ _ _ (hm i hi)⟩
    · have hcb : c ≠ b := fun q => hi.ow k (q ▸ hw)
      exact ⟨heap_setCells_other b _ _ _ _ hcb, hi.ow, fun o => by simp [G', hcb, hi.mem], hi.ge, by rw [size_setCells]; exact hi.lt⟩
    · cases hv with
      | sl hu0 hm0 hc0 _ =>
        refine .sla ?_ (by simp [G'])
        have hcl := hu0.length
        have := Val.sl (G := G') (cl := false) (b := b) (off := 0) (cap := cap) (ValU.append (hu.mono (le _) h.sup) (hu0.mono (le _) h.sup)) (fun i hi => ?_) (by simpa using hroom) (by simp)
        · simpa using this
        · simp only [List.length_append] at hi
          rw [List.getElem_append]
          split
          · rename_i q
            exact (le 0).mem _ _ _ (hm0 i q)
          · rename_i q
            have q2 : as.length * sz ≤ 0 + i ∧ 0 + i < as.length * sz + news.length := by omega
            simp only [G', true_and, if_pos q2]
            rw [List.getElem?_eq_getElem (by omega)]
            congr 2; omega
    · intro j hj
      rw [hh.cell, List.getElem?_eq_getElem (by omega)]; rfl
    · intro j hj
      exact hh.free (by omega)
end
end Go.Mc
