/- Abstract values and contracts of calls of the program: a part of the logic in which the claim is proved; it states nothing of the program by itself. -/
import Derived.Test.YtineemehkodlmaaDoorT5
set_option linter.all false
namespace Go.Mc

theorem fld_some {P : Program} {s f t o n} (h : fld P s f = some (t, o, n)) : ∃ (fs : Array Field) (fd : Field), P.underlying s = some (.struct fs) ∧ fs[f]? = some fd ∧ fd.type = t ∧ fd.offset = o ∧ tsz P t = some n := by
  unfold fld at h
  split at h
  · rename_i fs hu
    rw [Option.bind_eq_some_iff] at h
    obtain ⟨fd, h1, h2⟩ := h
    rw [Option.map_eq_some_iff] at h2
    obtain ⟨n', h3, h4⟩ := h2
    simp only [Prod.mk.injEq] at h4
    obtain ⟨rfl, rfl, rfl⟩ := h4
    exact ⟨fs, fd, hu, h1, rfl, rfl, h3⟩
  · simp at h

/-- a part of memory that is never written -/
theorem Val.cptr_sub {G : Ghost} {a c : AV} {b off o : Nat} {x : Value} (hv : Val G a x) (hm : ∀ i (h : i < x.cells.size), G.mem b (off + i) = some x.cells[i]) {p : List Nat} (hs : sub p a 0 = some (o, c)) :
    Val G (.cptr c) (.pointer (some ⟨b, off + o, none⟩)) := by
  obtain ⟨y, d, e, hy, hle, hw, -⟩ := sub_upd p hv hs
  rw [Nat.zero_add] at e; subst e
  refine .cptr hy fun i hi => ?_
  have h1 := hm (o + i) (by omega)
  rw [Nat.add_assoc, h1]
  have h2 : (x.cells.toList.drop o)[i]? = y.cells.toList[i]? := by rw [← hw, List.getElem?_take, if_pos hi]
  rw [List.getElem?_drop] at h2
  simpa [hi, show o + i < x.cells.size by omega] using h2

theorem sub_node {ws : List Nat} {as : List AV} {i : Nat} (h : i < as.length) : sub [i] (.node ws as) 0 = some ((ws.take i).sum, as.getD i .undef) := by simp [sub, h]
theorem sub_arr {sz : Nat} {as : List AV} {i : Nat} (h : i < as.length) : sub [i] (.arr sz as) 0 = some (i * sz, as.getD i .undef) := by simp [sub, h]

section
variable {E : Prg} {G : Ghost} {H : List Blk} {w : World} {p : Prop} {r a : AV} {x : Value}

theorem run_sureAddr_some (P : Program) (w : World) (a : Addr) : (Instr.sureAddr (.pointer (some a))).run P w = .ok a w := rfl

theorem lopLoad_ok {t : TypeId} (h : lopLoad E H t a = some (p, r)) (hp : p) (hs : St E.gl G H w) (hv : Val G a x) : ∃ v, (Instr.loadAt t x).run E.P w = .ok v w ∧ Val G r v := by
  unfold lopLoad at h
  split at h
  · rename_i k pa off
    have key : ∀ c, (H[k]? = some (.obj c) ∨ H[k]? = some (.froz c)) → (match sub pa c 0 with | some (o, x) => some (o = off ∧ Fits E.P t x, x) | none => none) = some (p, r) →
        ∃ v, (Instr.loadAt t x).run E.P w = .ok v w ∧ Val G r v := by
      intro c hk h
      split at h
      · rename_i o y e
        simp only [Option.some.injEq, Prod.mk.injEq] at h
        obtain ⟨rfl, rfl⟩ := h
        obtain ⟨rfl, hf⟩ := hp
        cases hv with
        | ptr hb =>
          obtain ⟨z, hz, hc⟩ := hs.load hk hb e
          exact ⟨z, by simp [Instr.loadAt, run_sureAddr_some, run_loadVar' hf hz hc], hz⟩
      · simp at h
    split at h
    · rename_i c hk; exact key c (.inl hk) h
    · rename_i c hk; exact key c (.inr hk) h
    · simp at h
  · simp only [Option.some.injEq, Prod.mk.injEq] at h
    obtain ⟨rfl, rfl⟩ := h
    cases hv with
    | cptr hv hm =>
      rename_i y b off
      refine ⟨y, ?_, hv⟩
      have := run_loadVar' (w := w) (b := b) (o := off) hp hv (fun i v e => hs.mem _ _ _ (by
        obtain ⟨hi, e⟩ := List.getElem?_eq_some_iff.1 e
        rw [hm i (by simpa using hi)]; simpa using e))
      simp [Instr.loadAt, run_sureAddr_some, this]
  · simp at h

theorem lopFieldAddr_ok {s : TypeId} {f : Nat} (h : lopFieldAddr E s f a = some (p, r)) (hp : p) (hv : Val G a x) : ∃ v, (Instr.fieldAt s x f).run E.P w = .ok v w ∧ Val G r v := by
  unfold lopFieldAddr at h
  split at h
  · rename_i t o sz hf
    obtain ⟨fs, fd, hu, hfd, rfl, rfl, hsz⟩ := fld_some hf
    have run : ∀ b off, sz ≠ 0 → (Instr.fieldAt s (.pointer (some ⟨b, off, none⟩)) f).run E.P w = .ok (.pointer (some ⟨b, off + fd.offset, none⟩)) w := by
      intro b off hne
      simp [Instr.fieldAt, run_underlying hu, hfd, run_sureAddr_some, fieldPlace, run_sizeOf' hsz, hne, addr_add, pure]
    split at h
    · simp only [Option.some.injEq, Prod.mk.injEq] at h
      obtain ⟨rfl, rfl⟩ := h
      cases hv with
      | ptr hb => exact ⟨_, run _ _ hp, .ptr hb⟩
    · rename_i ws as
      simp only [Option.some.injEq, Prod.mk.injEq] at h
      obtain ⟨rfl, rfl⟩ := h
      obtain ⟨hne, ho, hlt⟩ := hp
      cases hv with
      | cptr hv hm =>
        refine ⟨_, run _ _ hne, ?_⟩
        have := Val.cptr_sub hv hm (sub_node (ws := ws) hlt)
        rwa [ho] at this
    · simp at h
  · simp at h

theorem run_part_val {P : Program} {t : TypeId} {c : AV} {y : Value} {cs : Array Value} {o : Nat} (hf : Fits P t c) (hy : Val G c y) (hc : (cs.toList.drop o).take c.wd = y.cells.toList) : (part t cs o).run P w = .ok y w := by
  have hw := hy.wd hf.stor
  simp only [part, Sem.run_bind, run_isAgg' hf.kind, Result.andThen_ok]
  cases ht : c.tree
  · have h1 := cells_of_one (hy.one hf.stor ht)
    have hwd : c.wd = 1 := by rw [← hw, h1]; rfl
    rw [hwd, h1] at hc
    have : cs[o]? = some y := by
      have h2 : ((cs.toList.drop o).take 1)[0]? = some y := by rw [hc]; rfl
      rw [List.getElem?_take, if_pos (by omega), List.getElem?_drop] at h2
      simpa using h2
    simp [this, pure]
  · simp only [if_true, Sem.run_bind, run_sizeOf' hf.size, Result.andThen_ok]
    have : cs.extract o (o + c.wd) = y.cells := by
      apply Array.ext'
      rw [Array.toList_extract, ← hc]
      simp [List.extract]
    rw [this, ← hy.agg ht]; rfl

theorem lopField_ok {s : TypeId} {f : Nat} (h : lopField E s f a = some (p, r)) (hp : p) (hv : Val G a x) : ∃ v, (Instr.field s x f).run E.P w = .ok v w ∧ Val G r v := by
  unfold lopField at h
  split at h
  · rename_i t o sz hf
    obtain ⟨fs, fd, hu, hfd, rfl, rfl, hsz⟩ := fld_some hf
    split at h
    · rename_i ws as
      simp only [Option.some.injEq, Prod.mk.injEq] at h
      obtain ⟨rfl, rfl⟩ := h
      obtain ⟨hfit, ho, hlt⟩ := hp
      cases hv with
      | node hn =>
        obtain ⟨y, h1, h2, -, h3⟩ := hn.get f hlt
        refine ⟨y, ?_, h1⟩
        rw [← h2, h1.wd hfit.stor, ho] at h3
        rename_i cs
        have := run_part_val (P := E.P) (w := w) (cs := cs.toArray) hfit h1 (by simpa using h3)
        simp [Instr.field, run_underlying hu, hfd, asAgg, pure, this]
    · simp at h
  · simp at h

theorem ixk_slice {P : Program} {t e sz} (h : ixk P t = some (.slice e sz)) : P.underlying t = some (.slice e) ∧ tsz P e = some sz := by
  unfold ixk at h
  split at h
  · rename_i hu
    rw [Option.map_eq_some_iff] at h
    obtain ⟨n, h1, h2⟩ := h
    simp only [Ix.slice.injEq] at h2
    obtain ⟨rfl, rfl⟩ := h2
    exact ⟨hu, h1⟩
  · rw [Option.map_eq_some_iff] at h
    obtain ⟨n, h1, h2⟩ := h
    simp at h2
  · simp at h
  · simp at h
theorem ixk_array {P : Program} {t n e sz} (h : ixk P t = some (.array n e sz)) : P.underlying t = some (.array n e) ∧ tsz P e = some sz := by
  unfold ixk at h
  split at h
  · rw [Option.map_eq_some_iff] at h
    obtain ⟨n, h1, h2⟩ := h
    simp at h2
  · rename_i hu
    rw [Option.map_eq_some_iff] at h
    obtain ⟨n, h1, h2⟩ := h
    simp only [Ix.array.injEq] at h2
    obtain ⟨rfl, rfl, rfl⟩ := h2
    exact ⟨hu, h1⟩
  · simp at h
  · simp at h
theorem ixk_str {P : Program} {t} (h : ixk P t = some .str) : P.underlying t = some .string := by
  unfold ixk at h
  split at h <;> simp_all [Option.map_eq_some_iff]

theorem getElem_ofNat {α : Type} (l : List α) (i : Nat) (h : i < l.length) (d : α) : l.getD i d = l[i] := by simp [h]

/-- an element of memory that is never written -/
theorem Val.cptr_elem {sz : Nat} {as : List AV} {b off i : Nat} {cs : List Value} (hu : ValU G sz as cs) (hm : ∀ i (h : i < cs.length), G.mem b (off + i) = some cs[i]) (hi : i < as.length) :
    Val G (.cptr (as.getD i .undef)) (.pointer (some ⟨b, off + i * sz, none⟩)) :=
  Val.cptr_sub (x := .agg cs.toArray) (.arr hu) (fun i hi => by simpa [agg_cells] using hm i (by simpa [agg_cells] using hi)) (sub_arr hi)

theorem lopIndexAddr_ok {t : TypeId} {i : AV} {y : Value} (h : lopIndexAddr E t a i = some (p, r)) (hp : p) (hv : Val G a x) (hi : Val G i y) : ∃ v, (Instr.indexAt t x y).run E.P w = .ok v w ∧ Val G r v := by
  unfold lopIndexAddr at h
  split at h
  · rename_i kk j
    obtain rfl := hi.inv_v
    have inat : ∀ n : Nat, 0 ≤ j → j < (n : Int) → j.toNat < n := fun n h1 h2 => by omega
    split at h
    · rename_i n e sz hx
      obtain ⟨hu, hsz⟩ := ixk_array hx
      have run : ∀ b off, 0 ≤ j → j < (n : Int) → (Instr.indexAt t (.pointer (some ⟨b, off, none⟩)) (.int kk j)).run E.P w = .ok (.pointer (some ⟨b, off + j.toNat * sz, none⟩)) w := by
        intro b off h0 h1
        simp [Instr.indexAt, asIntOf, run_underlying hu, run_sureAddr_some, h0, h1, run_sizeOf' hsz, addr_add, pure]
      split at h
      · simp only [Option.some.injEq, Prod.mk.injEq] at h
        obtain ⟨rfl, rfl⟩ := h
        cases hv with
        | ptr hb => exact ⟨_, run _ _ hp.1 hp.2, .ptr hb⟩
      · rename_i s as
        simp only [Option.some.injEq, Prod.mk.injEq] at h
        obtain ⟨rfl, rfl⟩ := h
        obtain ⟨h0, h1, rfl, hl⟩ := hp
        cases hv with
        | cptr hv hm => exact ⟨_, run _ _ h0 h1, Val.cptr_sub hv hm (sub_arr (by have := inat n h0 h1; omega))⟩
      · simp at h
    · rename_i e sz hx
      obtain ⟨hu, hsz⟩ := ixk_slice hx
      have run : ∀ b off (len cap : Nat), 0 ≤ j → j < (len : Int) → (Instr.indexAt t (.slice (some ⟨b, off, none⟩) len cap) (.int kk j)).run E.P w = .ok (.pointer (some ⟨b, off + j.toNat * sz, none⟩)) w := by
        intro b off len cap h0 h1
        simp [Instr.indexAt, asIntOf, run_underlying hu, h0, h1, run_sizeOf' hsz, addr_add, pure]
      have key : ∀ (s : Nat) (as : List AV) (cl : Bool), Val G (.sl s as cl) x → 0 ≤ j → j < (as.length : Int) → s = sz → ∃ v, (Instr.indexAt t x (.int kk j)).run E.P w = .ok v w ∧ Val G (.cptr (as.getD j.toNat .undef)) v := by
        intro s as cl hv h0 h1 hs
        subst hs
        cases hv with
        | nil => simp at h1; omega
        | sl hu' hm hc _ => exact ⟨_, run _ _ _ _ h0 h1, Val.cptr_elem hu' hm (inat _ h0 h1)⟩
      split at h
      · simp only [Option.some.injEq, Prod.mk.injEq] at h
        obtain ⟨rfl, rfl⟩ := h
        exact key _ _ _ hv hp.1 hp.2.1 hp.2.2
      · simp only [Option.some.injEq, Prod.mk.injEq] at h
        obtain ⟨rfl, rfl⟩ := h
        cases hv with
        | sla hv _ => exact key _ _ _ hv hp.1 hp.2.1 hp.2.2
      · simp only [Option.some.injEq, Prod.mk.injEq] at h
        obtain ⟨rfl, rfl⟩ := h
        obtain ⟨h0, h1, rfl⟩ := hp
        cases hv with
        | asl hb _ => exact ⟨_, run _ _ _ _ h0 h1, .ptr hb⟩
      · simp at h
    · simp at h
  · simp at h

theorem lopIndex_ok {t : TypeId} {i : AV} {y : Value} (h : lopIndex E t a i = some (p, r)) (hp : p) (hv : Val G a x) (hi : Val G i y) : ∃ v, (Instr.index t x y).run E.P w = .ok v w ∧ Val G r v := by
  unfold lopIndex at h
  split at h
  · rename_i kk j
    obtain rfl := hi.inv_v
    split at h
    · rename_i n e sz hx
      obtain ⟨hu, hsz⟩ := ixk_array hx
      split at h
      · rename_i s as
        simp only [Option.some.injEq, Prod.mk.injEq] at h
        obtain ⟨rfl, rfl⟩ := h
        obtain ⟨h0, h1, hl, hs', hfit⟩ := hp
        cases hv with
        | arr hn =>
          obtain ⟨y, g1, g2, -, g3⟩ := hn.get j.toNat (by omega)
          refine ⟨y, ?_, g1⟩
          rw [hsz] at hs'; simp only [Option.some.injEq] at hs'; subst hs'
          have hwd := g1.wd hfit.stor
          have e : sz = (as.getD j.toNat .undef).wd := by omega
          rename_i cs
          have := run_part_val (P := E.P) (w := w) (cs := cs.toArray) (o := j.toNat * sz) hfit g1 (by rw [← e]; simpa using g3)
          simp [Instr.index, asIntOf, run_underlying hu, h0, h1, run_sizeOf' hsz, pure, this]
      · simp at h
    · rename_i hx
      have hu := ixk_str hx
      split at h
      · rename_i s
        simp only [Option.some.injEq, Prod.mk.injEq] at h
        obtain ⟨rfl, rfl⟩ := h
        obtain ⟨h0, h1⟩ := hp
        obtain rfl := hv.inv_v
        refine ⟨_, ?_, .v rfl⟩
        have hlt : j.toNat < s.size := by omega
        have : s[j.toNat]? = some s[j.toNat] := by simp [hlt]
        simp [Instr.index, asIntOf, run_underlying hu, h0, this, pure, sbyte]
        have h3 : j.toNat < s.data.size := hlt
        simp only [ByteArray.getElem_eq_getElem_data, Array.getElem?_eq_getElem h3, Option.getD_some]
      · simp at h
    · simp at h
  · simp at h
end
end Go.Mc
