/- Abstract values and contracts of calls of the program: a part of the logic in which the claim is proved; it states nothing of the program by itself. -/
import Derived.Test.YtineemehkodlmaaDoorT10
import Derived.Lib.ConvBytes
set_option linter.all false
namespace Go.Mc
open Go.RowKit (Below)

def notIface (P : Program) (t : TypeId) : Prop := ∃ d, P.underlying t = some d ∧ ∀ ms, d ≠ .interface ms

/-- a store into a tracked object -/
def sopStore (E : Prg) (H : List Blk) (t : TypeId) (a x : AV) : Option (Prop × List Blk × AV) :=
  match a with
  | .ptr k p off => match H[k]? with
    | some (.obj c) => match sub p c 0 with
      | some (o, y) => some (o = off ∧ Fits E.P t x ∧ y.stor = true ∧ y.wd = x.wd ∧ (upd p c x).lt k, H.set k (.obj (upd p c x)), .undef)
      | none => none
    | _ => none
  | _ => none

/-- copy -/
def sopCopy (E : Prg) (H : List Blk) (t : TypeId) (d x : AV) : Option (Prop × List Blk × AV) :=
  match ixk E.P t, d, srcOf H x with
  | some (.slice _ sz), .asl k p off s len, some (sz', ys) => match H[k]? with
    | some (.obj c) => match sub p c 0 with
      | some (o, .arr s' as) => some (o = off ∧ s = sz ∧ s' = sz ∧ (ys = [] ∨ sz' = sz) ∧ as.length = len ∧ (upd p c (.arr s' (ys.take len ++ as.drop ys.length))).lt k,
          H.set k (.obj (upd p c (.arr s' (ys.take len ++ as.drop ys.length)))), .v (.int .i64 (min ys.length len : Nat)))
      | _ => none
    | _ => none
  | _, _, _ => none

/-- a make with a length -/
def sopMake (E : Prg) (H : List Blk) (t : TypeId) (l c : AV) : Option (Prop × List Blk × AV) :=
  match ixk E.P t, l, c with
  | some (.slice e sz), .v (.int .i64 n), .v (.int .i64 n') => match E.zv e with
    | some z => some (n = n' ∧ 0 ≤ n ∧ n ≤ 140737488355328 ∧ 0 < sz ∧ ∃ by_, tby E.P e = some by_ ∧ by_ * n.toNat ≤ 140737488355328, H ++ [.obj (.arr sz (List.replicate n.toNat z))], .asl H.length [] 0 sz n.toNat)
    | none => none
  | _, _, _ => none

section
variable {E : Prg} {G : Ghost} {H : List Blk} {w : World} {p : Prop} {r : AV} {H' : List Blk}

theorem sopStore_ok (hs : St E.gl G H w) {t : TypeId} {a x : AV} {av xv : Value} (h : sopStore E H t a x = some (p, H', r)) (hp : p) (ha : Val G a av) (hx : Val G x xv) :
    ∃ w' G', (Instr.storeAt t av xv).run E.P w = .ok () w' ∧ Ext H.length G w G' w' ∧ St E.gl G' H' w' ∧ r = .undef ∧ H.length ≤ H'.length := by
  unfold sopStore at h
  split at h
  · rename_i k pa off
    split at h
    · rename_i c hk
      split at h
      · rename_i o y e
        simp only [Option.some.injEq, Prod.mk.injEq] at h
        obtain ⟨rfl, rfl, rfl⟩ := h
        obtain ⟨rfl, hf, hy, hwd, hlt⟩ := hp
        cases ha with
        | ptr hb =>
          obtain ⟨h1, h2, h3, h4⟩ := hs.store hk hb e hx (hx.ones hf.stor) (fun u hu => by rw [hu.wd hy, hwd, ← hx.wd hf.stor]) hlt
          exact ⟨_, G, by simp [Instr.storeAt, run_sureAddr_some, run_storeVar' hf hx h3 h4], h2 _, h1, rfl, by simp⟩
      · simp at h
    · simp at h
  · simp at h

/-- an object's cells are written in a range -/
theorem St.write (h : St E.gl G H w) {k b off : Nat} {a a' : AV} {zs : List Value} (hk : H[k]? = some (.obj a)) (hb : G.bl k = some b)
    (hw : ∀ x, Val G a x → Ones x.cells.toList → off + zs.length ≤ x.cells.toList.length ∧ ∃ x', Val G a' x' ∧ Ones x'.cells.toList ∧ x'.cells.toList = x.cells.toList.take off ++ (zs ++ x.cells.toList.drop (off + zs.length))) (hu : a'.lt k) :
    St E.gl G (H.set k (.obj a')) (w.setCells b off zs) ∧ (∀ n, Ext n G w G (w.setCells b off zs)) ∧
      (∀ j, j < zs.length → (w.cell? ⟨b, off + j, none⟩).isSome = true) ∧ (∀ j, j < zs.length → w.frozen? ⟨b, off + j, none⟩ = false) := by
  have hB := h.blk k _ hk
  cases hB with
  | obj hv ho hb' hw' hh hm =>
    rw [hb] at hb'; cases hb'
    rename_i x rest
    obtain ⟨hfit, x', hx', ho', hc'⟩ := hw x hv ho
    have hh' := Holds.setCells zs off hh (by rw [List.length_append]; omega)
    have hoth : ∀ j c', G.ow j = some c' → j ≠ k → (w.setCells b off zs).heap[c']? = w.heap[c']? := fun j c' e hj =>
      heap_setCells_other b _ _ _ _ fun q => hj (h.inj j k b (q ▸ e) hw')
    have hob := h.own k b hw'
    refine ⟨⟨?_, ?_, by simpa using h.sup, ?_, h.inj, ?_, ?_, h.gl⟩, fun n => ⟨.refl _ _, by rw [size_setCells]; exact Nat.le_refl _, fun c' hi => ?_⟩, ?_, ?_⟩
    · have : ∀ (vs : List Value) (o : Nat) (w : World), Below G.base.heap.size G.base w → Below G.base.heap.size G.base (w.setCells b o vs) := by
        intro vs
        induction vs with
        | nil => intro o w hB; exact hB
        | cons v r ih => intro o w hB; exact ih _ _ (hB.setCell hob.2.1 v)
      exact this _ _ _ h.base
    · intro c' o v e
      have : c' ≠ b := fun q => by subst q; rw [hm] at e; simp at e
      rw [cell?_of_heap (heap_setCells_other b _ _ _ _ this)]
      exact h.mem _ _ _ e
    · intro j c' e
      have := h.own j c' e
      rw [size_setCells]; simpa using this
    · intro j B e
      rw [List.getElem?_set] at e
      split at e
      · rename_i q; subst q
        split at e
        · cases e
          exact .obj (rest := rest) hx' ho' hb hw' (by rw [List.take_append_of_le_length (by omega), List.drop_append_of_le_length (by omega)] at hh'; rw [hc']; simpa using hh') hm
        · simp at e
      · rename_i q
        exact (h.blk j B e).keep h.sup (.refl _ _) (fun _ => rfl) fun c' hc => ⟨hc, hoth j c' hc (Ne.symm q), fun _ => rfl⟩
    · intro j B e
      rw [List.getElem?_set] at e
      split at e
      · rename_i q; subst q
        split at e
        · cases e; exact hu
        · simp at e
      · exact h.lt j B e
    · refine ⟨heap_setCells_other b _ _ _ _ fun q => hi.ow k (q ▸ hw'), hi.ow, hi.mem, hi.ge, by rw [size_setCells]; exact hi.lt⟩
    · intro j hj
      rw [hh.cell, List.getElem?_eq_getElem (by rw [List.length_append]; omega)]; rfl
    · intro j hj
      exact hh.free (by rw [List.length_append]; omega)

theorem copy_cells (xs ys : List Value) (d n y : Nat) (hxs : (xs.drop d).take y = ys) (hn : n ≤ y) (zs : List Value) :
    xs.take d ++ ((zs ++ ys.drop n) ++ xs.drop (d + y)) = xs.take d ++ (zs ++ xs.drop (d + n)) := by
  have : xs.drop (d + n) = ys.drop n ++ xs.drop (d + y) := by
    rw [← hxs, List.drop_take, List.drop_drop]
    have : xs.drop (d + y) = (xs.drop (d + n)).drop (y - n) := by rw [List.drop_drop]; congr 1; omega
    rw [this, List.take_append_drop]
  rw [this]; simp

theorem sopCopy_ok (hs : St E.gl G H w) {t t' ty : TypeId} {d x : AV} {dv xv : Value} (h : sopCopy E H t d x = some (p, H', r)) (hp : p) (hd : Val G d dv) (hx : Val G x xv) :
    ∃ v w' G', (Builtin.copy_ #[t, t'] ty #[dv, xv]).run E.P w = .ok v w' ∧ Ext H.length G w G' w' ∧ St E.gl G' H' w' ∧ Val G' r v ∧ H.length ≤ H'.length := by
  unfold sopCopy at h
  split at h
  · rename_i e sz k pa off s len sz' ys hix hsrc
    obtain ⟨hu, hsz⟩ := ixk_slice hix
    split at h
    · rename_i c hk
      split at h
      · rename_i o s' as es
        simp only [Option.some.injEq, Prod.mk.injEq] at h
        obtain ⟨rfl, rfl, rfl⟩ := h
        obtain ⟨rfl, rfl, rfl, hq2, hlen, hlt⟩ := hp
        obtain ⟨news, hu0, hs0⟩ := srcOf_ok (E := E) hs hsrc hx
        have hun : ValU G s' ys news := by
          rcases hq2 with rfl | rfl
          · exact hu0.nil_any
          · exact hu0
        have hsrc' : Src E.P w s' xv ys.length news := by
          rcases hq2 with rfl | rfl
          · cases hu0; exact hs0.zero
          · exact hs0
        cases hd with
        | asl hb hcap =>
          rename_i b cap
          have hnl := hun.length
          have hmin : min ys.length len ≤ ys.length := Nat.min_le_left _ _
          have hzl : (news.take (min ys.length len * s')).length = min ys.length len * s' := by
            rw [List.length_take, hnl]; exact Nat.min_eq_left (Nat.mul_le_mul_right _ hmin)
          have hcells := hsrc'.cells (min ys.length len) hmin
          obtain ⟨h1, h2, h3, h4⟩ := hs.write (off := o) (a' := upd pa c (.arr s' (ys.take len ++ as.drop ys.length))) (zs := news.take (min ys.length len * s')) hk hb (fun xx hxx ho => by
            obtain ⟨y, dd, e1, hy, hle, hw, hupd⟩ := sub_upd pa hxx es
            rw [Nat.zero_add] at e1; subst e1
            cases hy with
            | arr huo =>
              rename_i cs
              have hcl := huo.length
              have hnew : ValU G s' (ys.take len ++ as.drop ys.length) (news.take (min ys.length len * s') ++ cs.drop (min ys.length len * s')) := by
                have e1 : ys.take len = ys.take (min ys.length len) := by
                  rcases Nat.le_total ys.length len with q | q
                  · rw [List.take_of_length_le q, Nat.min_eq_left q, List.take_length]
                  · rw [Nat.min_eq_right q]
                have e2 : as.drop ys.length = as.drop (min ys.length len) := by
                  rcases Nat.le_total ys.length len with q | q
                  · rw [Nat.min_eq_left q]
                  · rw [Nat.min_eq_right q, List.drop_of_length_le (by omega), List.drop_of_length_le (by omega)]
                rw [e1, e2]
                exact ValU.append (huo.drop _) (hun.take _)
              have hml : min ys.length len * s' ≤ cs.length := by
                rw [hcl, hlen]; exact Nat.mul_le_mul_right _ (Nat.min_le_right _ _)
              simp only [agg_cells] at hle hw hupd
              refine ⟨by rw [hzl]; simp only [List.size_toArray, Array.length_toList] at hle ⊢; omega, ?_⟩
              obtain ⟨x', g1, g2, g3, g4⟩ := hupd _ _ (.arr hnew) (by simpa [agg_cells] using hnew.ones) ho (by
                simp only [agg_cells, List.size_toArray, List.length_append, hzl, List.length_drop]; omega)
              refine ⟨x', g1, g2, ?_⟩
              rw [g4, hzl]
              simp only [agg_cells, List.size_toArray]
              exact copy_cells xx.cells.toList cs o _ cs.length (by simpa using hw) hml _) hlt
          have hst := run_storeCells_cells (P := E.P) b o _ 0 w (by simpa using h3) (by simpa using h4) (fun v hv => hun.ones v (List.mem_of_mem_take hv))
          simp only [Nat.add_zero] at hst
          refine ⟨_, _, G, ?_, h2 _, h1, .v rfl, by simp⟩
          simp only [Builtin.copy_]
          have hnm : Nat.min ys.length len = min ys.length len := rfl
          simp [run_underlying hu, hsrc'.len, run_sizeOf' hsz, hnm, hcells, hst, pure, goInt]
      · simp at h
    · simp at h
  · simp at h

theorem sopMake_ok (hs : St E.gl G H w) {t : TypeId} {l c : AV} {lv cv : Value} (h : sopMake E H t l c = some (p, H', r)) (hp : p) (hl : Val G l lv) (hc : Val G c cv) :
    ∃ v w' G', (Instr.makeSlice t lv cv).run E.P w = .ok v w' ∧ Ext H.length G w G' w' ∧ St E.gl G' H' w' ∧ Val G' r v ∧ H.length ≤ H'.length := by
  unfold sopMake at h
  split at h
  · rename_i e sz n n' hix
    obtain ⟨hu, hsz⟩ := ixk_slice hix
    split at h
    · rename_i za hz
      simp only [Option.some.injEq, Prod.mk.injEq] at h
      obtain ⟨rfl, rfl, rfl⟩ := h
      obtain ⟨rfl, h0, hmax, hsz0, by_, hby, hbn⟩ := hp
      obtain rfl := hl.inv_v
      obtain rfl := hc.inv_v
      obtain ⟨hfit, -, ⟨z, hz1, hz2⟩, -⟩ := E.zok _ _ hz
      have hzs : z.cells.size = sz := by
        have h1 := (hz2 G).wd hfit.stor
        have h2 := hfit.size
        rw [hsz] at h2; simp only [Option.some.injEq] at h2; omega
      have hu0 := ValU.rep (hz2 G) hzs ((hz2 G).ones hfit.stor) n.toNat
      obtain ⟨ie, hie, rfl⟩ := tsz_some hsz
      obtain ⟨ie', hi, hzz⟩ := Option.map_eq_some_iff.1 hz1
      rw [hie] at hi; cases hi
      obtain ⟨ie', hi, hbb⟩ := Option.map_eq_some_iff.1 hby
      rw [hie] at hi; cases hi
      subst hbb
      have hr := run_make (P := E.P) w t e ie z hu hie hzz .i64 .i64 n n h0 (Int.le_refl _) (by
        have : ((ie.bytes * n.toNat : Nat) : Int) ≤ 140737488355328 := by omega
        rw [Int.natCast_mul, Int.toNat_of_nonneg h0] at this
        omega) (by omega)
      have hcells : (madeCells z.cells (n.toNat * ie.size)) = (Value.agg (List.replicate n.toNat z.cells.toList).flatten.toArray).cells := by
        rw [agg_cells]
        apply Array.ext'
        exact repA z.cells n.toNat ie.size hzs
      rw [hcells] at hr
      obtain ⟨g1, g2, g3⟩ := hs.new_obj (x := .agg (List.replicate n.toNat z.cells.toList).flatten.toArray) (.arr hu0) (by simpa [agg_cells] using hu0.ones) e
      refine ⟨_, _, _, hr, g2, g1, ?_, by simp⟩
      cases g3 with
      | ptr hb => exact .asl hb (Nat.le_refl _)
    · simp at h
  · simp at h

theorem newObj_ok (hs : St E.gl G H w) {t : TypeId} {a : AV} {x : Value} (hv : Val G a x) (hst : a.stor = true) :
    ∃ w' G', (newVar t x).run E.P w = .ok ⟨w.heap.size, 0, none⟩ w' ∧ Ext H.length G w G' w' ∧ St E.gl G' (H ++ [.obj a]) w' ∧ Val G' (.ptr H.length [] 0) (.pointer (some ⟨w.heap.size, 0, none⟩)) := by
  obtain ⟨g1, g2, g3⟩ := hs.new_obj hv (hv.ones hst) t
  exact ⟨_, _, by simp [newVar, newRow, pure], g2, g1, g3⟩

theorem heap_freeze_at {W : World} {b n : Nat} {c : Array Value} {e : TypeId} (h : W.heap[b]? = some (.cells c e (0, 0))) : (W.freeze ⟨b, n, none⟩ 1).heap[b]? = some (.cells c e (n, n + 1)) := by
  simp [World.freeze, Array.getElem?_modify, h]
theorem shape_at {W : World} {b : Nat} {c : Array Value} {e : TypeId} {f : Nat × Nat} (h : W.heap[b]? = some (.cells c e f)) : W.shape? b = some (e, c.size) := by
  simp [World.shape?, h]
/-- bytes of a string in new memory, which may be appended to -/
theorem bytes_ok (hs : St E.gl G H w) {src dst e : TypeId} {u : TypeDesc} {s : ByteArray} (hsrc : E.P.underlying src = some u) (hd : E.P.underlying dst = some (.slice e)) (he : E.P.underlying e = some (.int .u8)) :
    ∃ v w' G', (Go.convert src dst (.string s)).run E.P w = .ok v w' ∧ Ext H.length G w G' w' ∧ St E.gl G' (H ++ [.tok 1 (bytesAV s).length]) w' ∧ Val G' (.sla 1 (bytesAV s) H.length) v := by
  have hge := grownCap_ge w s.size 0 e
  let cs : List Value := s.data.toList.map fun b => Value.int .u8 b.toNat
  let rest : List Value := List.replicate (grownCap w s.size 0 e - s.size) (.int .u8 0)
  have hcl : cs.length = s.size := by simp [cs]
  have hs1 := hs.drew.alloc (.cells (cs ++ rest).toArray e)
  have hid := hs.drew.idle_new (.cells (cs ++ rest).toArray e)
  -- the mark behind the last cell
  let w2 := (w.drew.alloc (.cells (cs ++ rest).toArray e)).freeze ⟨w.heap.size, (cs ++ rest).length, none⟩ 1
  have hheap : ∀ b, b ≠ w.heap.size → w2.heap[b]? = (w.drew.alloc (.cells (cs ++ rest).toArray e)).heap[b]? := by
    intro b hb
    simp [w2, World.freeze, Array.getElem?_modify, Ne.symm hb]
  have hhold : Holds w2 w.heap.size (cs ++ rest) := by
    refine ⟨e, (cs ++ rest).length, (cs ++ rest).length + 1, ?_, Nat.le_succ _, by omega⟩
    have : (w.drew.alloc (.cells (cs ++ rest).toArray e)).heap[w.heap.size]? = some (.cells (cs ++ rest).toArray e) := by
      show (w.heap.push _)[w.heap.size]? = _
      simp
    exact heap_freeze_at this
  have hsz2 : w2.heap.size = (w.drew.alloc (.cells (cs ++ rest).toArray e)).heap.size := by simp [w2, World.freeze]
  have hs2 : St E.gl G H w2 := by
    have hob : w.drew.heap.size = w.heap.size := rfl
    refine ⟨?_, ?_, hs1.sup, ?_, hs1.inj, ?_, hs1.lt, hs1.gl⟩
    · have hb := hs1.base
      refine ⟨hb.os, hb.tape, hb.output, by rw [hsz2]; exact hb.size, fun k hk => ?_⟩
      rw [hheap k (by have := hs.base.size; omega)]; exact hb.block k hk
    · intro b o v e'
      have hne : b ≠ w.heap.size := fun q => by subst q; rw [← hob, hid.mem] at e'; simp at e'
      rw [cell?_of_heap (hheap b hne)]; exact hs1.mem _ _ _ e'
    · intro k b e'; rw [hsz2]; exact hs1.own _ _ e'
    · intro k B e'
      refine (hs1.blk k B e').keep hs1.sup (.refl _ _) (fun _ => rfl) fun b hb => ⟨hb, hheap b (fun q => hid.ow k (by rw [hob, ← q]; exact hb)), fun _ => rfl⟩
  have hid2 : Idle G w2 w.heap.size := ⟨hid.ow, hid.mem, hid.ge, by rw [hsz2]; exact hid.lt⟩
  have hnone := hs.sup.rv_none
  obtain ⟨G', h1, h2, h3, h4⟩ := hs2.tok_put (k := H.length) (cap := grownCap w s.size 0 e) (cs := cs) (rest := rest) hid2 hhold (bytesAV_val (G := G) s) (by
      simp [cs, rest]; omega) (by rw [bytesAV_length]; exact hge) (Nat.le_refl _) (fun i _ => hnone i)
  have hput : put H H.length (.tok 1 (bytesAV s).length) = H ++ [.tok 1 (bytesAV s).length] := by simp [put]
  rw [hput] at h1
  refine ⟨.slice (some ⟨w.heap.size, 0, none⟩) s.size (grownCap w s.size 0 e), w2, G', ?_, ⟨h2 _, by rw [hsz2]; simp, fun b hb => ?_⟩, h1, by rw [bytesAV_length] at h4; exact h4⟩
  · have harr : Lib.bytesCells w e s = (cs ++ rest).toArray := by
      apply Array.ext'; simp [Lib.bytesCells, cs, rest]
    have hw2 : w2 = Lib.bytesWorld w e s := by
      unfold Lib.bytesWorld
      rw [harr]
      simp [w2]
    rw [hw2]
    exact Lib.run_convert_string_bytes w src dst e s hsrc hd he
  · have hne : b ≠ w.heap.size := by have := hb.lt; omega
    refine ⟨by rw [hheap b hne, heap_alloc_lt _ _ (by simpa using hb.lt)]; rfl, fun j e' => hb.ow j ((h3 b hne).2 j e'), fun o => ((h3 b hne).1 o).trans (hb.mem o), by rw [(h2 0).base]; exact hb.ge, by rw [hsz2]; have := hb.lt; simp; omega⟩
end
end Go.Mc
