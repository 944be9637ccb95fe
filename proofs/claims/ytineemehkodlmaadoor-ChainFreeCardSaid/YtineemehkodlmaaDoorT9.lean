/- Abstract values and contracts of calls of the program: a part of the logic in which the claim is proved; it states nothing of the program by itself. -/
import Derived.Test.YtineemehkodlmaaDoorT8
set_option linter.all false
namespace Go.Mc

def bytesAV (s : ByteArray) : List AV := s.data.toList.map fun b => .v (.int .u8 b.toNat)

/-- what is appended or copied -/
structure Src (P : Program) (w : World) (sz : Nat) (x : Value) (n : Nat) (news : List Value) : Prop where
  len : ∀ w', (Builtin.lenOf x).run P w' = .ok n w'
  cells : ∀ k, k ≤ n → (Builtin.firstCells sz k x).run P w = .ok (news.take (k * sz)).toArray w
  cells' : (Builtin.firstCells sz n x).run P w.drew = .ok news.toArray w.drew

theorem run_firstCells_take {P : Program} {w : World} (sz k : Nat) (b off n c : Nat) (cs : List Value) (hc : ∀ i (h : i < cs.length), w.cell? ⟨b, off + i, none⟩ = some cs[i]) (hl : cs.length = n * sz) (hk : k ≤ n) :
    (Builtin.firstCells sz k (.slice (some ⟨b, off, none⟩) n c)).run P w = .ok (cs.take (k * sz)).toArray w := by
  have hlen : (cs.take (k * sz)).length = k * sz := by
    rw [List.length_take, hl]; exact Nat.min_eq_left (Nat.mul_le_mul_right _ hk)
  have := run_loadCells_list (P := P) w ⟨b, off, none⟩ (cs.take (k * sz)) (fun j v e => by
    rw [addr_add]
    obtain ⟨h1, h2⟩ := List.getElem?_eq_some_iff.1 e
    rw [hc j (by rw [List.length_take] at h1; omega)]
    rw [← h2]; simp)
  rw [hlen] at this
  exact this

section
variable {E : Prg} {G : Ghost} {H : List Blk} {w : World}

theorem Val.sl_nil {sz sz' : Nat} {cl : Bool} {v : Value} (h : Val G (.sl sz [] cl) v) : Val G (.sl sz' [] cl) v := by
  cases h with
  | nil => exact .nil
  | sl hu hm hc hcl => cases hu; exact .sl .nil (by simp) hc hcl

theorem Val.src (hs : St E.gl G H w) {sz : Nat} {ys : List AV} {cl : Bool} {v : Value} (hv : Val G (.sl sz ys cl) v) : ∃ news, ValU G sz ys news ∧ Src E.P w sz v ys.length news := by
  cases hv with
  | nil => exact ⟨[], .nil, fun _ => rfl, fun k _ => by simp [Builtin.firstCells, pure], by simp [Builtin.firstCells, pure]⟩
  | sl hu hm hc hcl =>
    rename_i b off cap cs
    have hcell : ∀ i (h : i < cs.length), w.cell? ⟨b, off + i, none⟩ = some cs[i] := fun i h => hs.mem _ _ _ (hm i h)
    have hl := hu.length
    refine ⟨cs, hu, fun _ => rfl, fun k hk => run_firstCells_take sz k b off _ _ cs hcell hl hk, ?_⟩
    have := run_firstCells_take (P := E.P) (w := w.drew) sz ys.length b off ys.length cap cs hcell hl (Nat.le_refl _)
    rw [← hl, List.take_length] at this
    exact this

theorem bytesAV_val (s : ByteArray) : ValU G 1 (bytesAV s) (s.data.toList.map fun b => Value.int .u8 b.toNat) := by
  have : ∀ l : List UInt8, ValU G 1 (l.map fun b => AV.v (.int .u8 b.toNat)) (l.map fun b => Value.int .u8 b.toNat) := by
    intro l
    induction l with
    | nil => exact .nil
    | cons b l ih =>
      have := ValU.cons (sz := 1) (a := AV.v (.int .u8 b.toNat)) (x := Value.int .u8 b.toNat) (.v rfl) ⟨rfl, by intro c hc; simp [Value.cells] at hc; subst hc; rfl⟩ ih
      simpa [Value.cells] using this
  exact this _
theorem bytesAV_length (s : ByteArray) : (bytesAV s).length = s.size := by simp [bytesAV]

theorem str_src (s : ByteArray) : Src E.P w 1 (.string s) (bytesAV s).length (s.data.toList.map fun b => Value.int .u8 b.toNat) := by
  have key : ∀ (w' : World) k, k ≤ s.size → (Builtin.firstCells 1 k (.string s)).run E.P w' = .ok ((s.data.toList.map fun b => Value.int .u8 b.toNat).take (k * 1)).toArray w' := by
    intro w' k hk
    simp only [Builtin.firstCells, pure, Sem.run]
    congr 1
    apply Array.ext'
    simp [ByteArray.data_extract]
  refine ⟨fun _ => by rw [bytesAV_length]; rfl, fun k hk => key w k (by rw [bytesAV_length] at hk; exact hk), ?_⟩
  have := key w.drew s.size (Nat.le_refl _)
  rw [bytesAV_length]
  rw [this, List.take_of_length_le (by simp)]

/-- types at which append is no make -/
def noInt (P : Program) (t : TypeId) : Prop := ∃ d, P.underlying t = some d ∧ ∀ k, d ≠ .int k

theorem run_append_room_src {t t' ty e : TypeId} {i : TypeInfo} (ht : E.P.underlying t = some (.slice e)) (hi : E.P.info? e = some i) (hni : noInt E.P t') {b n cap m : Nat} {x : Value} {news : List Value}
    (hsrc : Src E.P w i.size x m news) (hnl : news.length = m * i.size) (h1 : Ones news) (hroom : n + m ≤ cap) (hc : ∀ j, j < news.length → (w.cell? ⟨b, 0 + n * i.size + j, none⟩).isSome = true) (hf : ∀ j, j < news.length → w.frozen? ⟨b, 0 + n * i.size + j, none⟩ = false) :
    (Builtin.append_ #[t, t'] ty #[.slice (some ⟨b, 0, none⟩) n cap, x]).run E.P w = .ok (.slice (some ⟨b, 0, none⟩) (n + m) cap) (w.setCells b (0 + n * i.size) news) := by
  obtain ⟨d, hd, hdn⟩ := hni
  have hst := run_storeCells_cells (P := E.P) b (0 + n * i.size) news 0 w (by simpa using hc) (by simpa using hf) h1
  simp only [Nat.add_zero] at hst
  have hcl := hsrc.cells m (Nat.le_refl _)
  rw [← hnl, List.take_length] at hcl
  have hadd : (⟨b, 0, none⟩ : Addr).add (n * i.size) = ⟨b, 0 + n * i.size, none⟩ := addr_add _ _ _
  simp only [Nat.zero_add] at hst hadd
  simp only [Builtin.append_]
  simp [run_underlying ht, run_underlying hd, sizeOf, typeInfo, hi, hsrc.len, hroom, hcl, hadd, hst, pure]

/-- an append without room -/
theorem run_append_grow_src {t t' ty e : TypeId} {i : TypeInfo} {z : Value} (ht : E.P.underlying t = some (.slice e)) (hi : E.P.info? e = some i) (hz : i.zero = some z) (hni : noInt E.P t') {base : Option Addr} {n cap m : Nat} {x : Value} {olds news : List Value}
    (hold : (Builtin.firstCells i.size n (.slice base n cap)).run E.P w.drew = .ok olds.toArray w.drew) (hsrc : Src E.P w i.size x m news) (hg : cap < n + m) (hby : 0 < i.bytes) (hfit : (n + m) * i.bytes ≤ 140737488355328) :
    ∃ c rest, n + m ≤ c ∧ rest = (Builtin.zeroCells z.cells (c - (n + m))).toList ∧ (Builtin.append_ #[t, t'] ty #[.slice base n cap, x]).run E.P w = .ok (.slice (some ⟨w.heap.size, 0, none⟩) (n + m) c) (w.drew.alloc (.cells (olds ++ news ++ rest).toArray e)) := by
  obtain ⟨d, hd, hdn⟩ := hni
  have hsm : n + m ≤ 140737488355328 := Nat.le_trans (Nat.le_mul_of_pos_right _ hby) hfit
  have hn : ¬ (n + m ≤ cap) := by omega
  have h63 : ¬ (9223372036854775807 < ((n : Int) + (m : Int))) := by omega
  have h48 : ¬ (281474976710656 < Builtin.nextslicecap (n + m) cap * i.bytes) := by
    have := growslice_fits hg hfit; omega
  refine ⟨grownCap w (n + m) cap e, _, grownCap_ge w (n + m) cap e, rfl, ?_⟩
  simp only [Builtin.append_]
  simp [run_underlying ht, run_underlying hd, sizeOf, typeInfo, zeroValue, hi, hz, hsrc.len, hn, h63, h48, hsrc.cells', hold, Question.forced, newRow, grownCap, pure]
  congr 2
  apply Array.ext'
  simp

/-- the operand from which elements are taken: their width and the elements -/
def srcOf (H : List Blk) : AV → Option (Nat × List AV)
  | .sl sz ys _ => some (sz, ys)
  | .sla sz ys _ => some (sz, ys)
  | .v (.string s) => some (1, bytesAV s)
  | .asl k p off _ len => match H[k]? with
    | some (.obj c) => match sub p c 0 with
      | some (o, .arr s ys) => if o = off ∧ ys.length = len then some (s, ys) else none
      | _ => none
    | _ => none
  | _ => none

theorem srcOf_ok (hs : St E.gl G H w) {a : AV} {v : Value} {sz : Nat} {ys : List AV} (h : srcOf H a = some (sz, ys)) (hv : Val G a v) : ∃ news, ValU G sz ys news ∧ Src E.P w sz v ys.length news := by
  unfold srcOf at h
  split at h
  · simp only [Option.some.injEq, Prod.mk.injEq] at h
    obtain ⟨rfl, rfl⟩ := h
    exact hv.src hs
  · simp only [Option.some.injEq, Prod.mk.injEq] at h
    obtain ⟨rfl, rfl⟩ := h
    cases hv with
    | sla hv _ => exact hv.src hs
  · simp only [Option.some.injEq, Prod.mk.injEq] at h
    obtain ⟨rfl, rfl⟩ := h
    obtain rfl := hv.inv_v
    exact ⟨_, bytesAV_val _, str_src _⟩
  · rename_i k p off sz' len
    split at h
    · rename_i c hk
      split at h
      · rename_i o s ys' e
        split at h
        · rename_i q
          obtain ⟨rfl, rfl⟩ := q
          simp only [Option.some.injEq, Prod.mk.injEq] at h
          obtain ⟨rfl, rfl⟩ := h
          cases hv with
          | asl hb hcap =>
            rename_i b cap
            obtain ⟨z, hz, hc⟩ := hs.load (.inl hk) hb e
            cases hz with
            | arr hu =>
              rename_i cs
              have hcell : ∀ i (h : i < cs.length), w.cell? ⟨b, o + i, none⟩ = some cs[i] := fun i h => hc i _ (by simp [agg_cells])
              refine ⟨cs, hu, fun _ => rfl, fun k hk => run_firstCells_take s k b o _ _ cs hcell hu.length hk, ?_⟩
              have := run_firstCells_take (P := E.P) (w := w.drew) s ys'.length b o ys'.length cap cs hcell hu.length (Nat.le_refl _)
              rw [← hu.length, List.take_length] at this
              exact this
        · simp at h
      · simp at h
    · simp at h
  · simp at h

/-- the zero value of an element -/
def ZSz (P : Program) (e : TypeId) (sz : Nat) : Prop := ∃ z, (P.info? e).map (·.zero) = some (some z) ∧ z.cells.size = sz
/-- append: the new heap and the result -/
def sopAppend (E : Prg) (H : List Blk) (t t' : TypeId) (s x : AV) : Option (Prop × List Blk × AV) :=
  match ixk E.P t, srcOf H x with
  | some (.slice e sz), some (sz', ys) => match s with
    | .sl s0 as true => some ((as = [] ∨ s0 = sz) ∧ (ys = [] ∨ sz' = sz) ∧ noInt E.P t' ∧ 0 < sz ∧ ZSz E.P e sz ∧ ∃ by_, tby E.P e = some by_ ∧ 0 < by_ ∧ (as.length + ys.length) * by_ ≤ 140737488355328,
        H ++ [.tok sz (as ++ ys).length], .sla sz (as ++ ys) H.length)
    | .sla s0 as k => match H[k]? with
      | some (.tok s1 n1) => some (s0 = sz ∧ s1 = sz ∧ n1 = as.length ∧ (ys = [] ∨ sz' = sz) ∧ noInt E.P t' ∧ 0 < sz ∧ ZSz E.P e sz ∧ ∃ by_, tby E.P e = some by_ ∧ 0 < by_ ∧ (as.length + ys.length) * by_ ≤ 140737488355328,
          H.set k (.tok sz (as ++ ys).length), .sla sz (as ++ ys) k)
      | _ => none
    | _ => none
  | _, _ => none

theorem Src.zero {P : Program} {w : World} {sz sz' : Nat} {x : Value} (h : Src P w sz x 0 []) : Src P w sz' x 0 [] := by
  have e : Builtin.firstCells sz' 0 x = Builtin.firstCells sz 0 x := by
    cases x <;> try rfl
    rename_i a _ _
    cases a <;> simp [Builtin.firstCells]
  refine ⟨h.len, fun k hk => ?_, by rw [e]; exact h.cells'⟩
  obtain rfl : k = 0 := by omega
  rw [e]; simpa using h.cells 0 (by omega)
theorem ValU.nil_any {sz sz' : Nat} {cs : List Value} (h : ValU G sz [] cs) : ValU G sz' [] cs := by cases h; exact .nil

/-- where there is no room, or the append is the first one -/
theorem append_grow_ok (hs : St E.gl G H w) {t t' ty e : TypeId} {sz by_ : Nat} {z : Value} (hx : E.P.underlying t = some (.slice e)) (hsz : tsz E.P e = some sz) (hz : (E.P.info? e).map (·.zero) = some (some z)) (hby : tby E.P e = some by_) (hb0 : 0 < by_)
    (hni : noInt E.P t') {as ys : List AV} {sv xv : Value} {news : List Value} (hsv : Val G (.sl sz as false) sv) (hu : ValU G sz ys news) (hsrc : Src E.P w sz xv ys.length news) (hcap : ∀ b n cap, sv = .slice b n cap → cap < n + ys.length) (hfit : (as.length + ys.length) * by_ ≤ 140737488355328)
    (hzs : z.cells.size = sz) {k : Nat} (hk : k ≤ H.length) (hrv : ∀ i, as.length + ys.length ≤ i → G.rv k i = none) :
    ∃ v w' G', (Builtin.append_ #[t, t'] ty #[sv, xv]).run E.P w = .ok v w' ∧ Ext H.length G w G' w' ∧ St E.gl G' (put H k (.tok sz (as ++ ys).length)) w' ∧ Val G' (.sla sz (as ++ ys) k) v := by
  obtain ⟨i, hi, rfl⟩ := tsz_some hsz
  obtain ⟨i', hi', rfl⟩ : ∃ i, E.P.info? e = some i ∧ i.bytes = by_ := by simpa [tby, Option.map_eq_some_iff] using hby
  rw [hi] at hi'; cases hi'
  rw [hi] at hz; simp only [Option.map_some, Option.some.injEq] at hz
  obtain ⟨base, cap, rfl⟩ : ∃ base cap, sv = .slice base as.length cap := by cases hsv <;> exact ⟨_, _, rfl⟩
  obtain ⟨olds, ho, hos⟩ := hsv.src hs
  obtain ⟨c, rest, hc, hrest, hrun⟩ := run_append_grow_src (ty := ty) hx hi hz hni hos.cells' hsrc (hcap _ _ _ rfl) hb0 hfit
  have hs1 := hs.drew.alloc (.cells (olds ++ news ++ rest).toArray e)
  have hid := hs.drew.idle_new (.cells (olds ++ news ++ rest).toArray e)
  have hu' := ValU.append hu ho
  obtain ⟨G', h1, h2, h3, h4⟩ := hs1.tok_put (k := k) (cap := c) (cs := olds ++ news) (rest := rest) hid (by simpa using Holds.alloc w.drew (olds ++ news ++ rest).toArray e) hu' (by
      have h5 := size_zeroCells z.cells (c - (as.length + ys.length))
      have h6 : rest.length = (c - (as.length + ys.length)) * i.size := by rw [hrest, Array.length_toList, h5, hzs]
      have h7 := hu'.length
      rw [List.length_append] at h7
      rw [List.length_append, List.length_append, h7, h6, ← Nat.add_mul]
      congr 1
      rw [List.length_append]; omega) (by simpa using hc) hk (by simpa using hrv)
  refine ⟨_, _, G', hrun, ⟨h2 _, by simp, fun b hb => ?_⟩, h1, by simpa using h4⟩
  have hne : b ≠ w.drew.heap.size := by have := hb.lt; simp; omega
  refine ⟨by rw [heap_alloc_lt _ _ (by simpa using hb.lt)]; rfl, fun j e => hb.ow j ((h3 b hne).2 j e), fun o => ((h3 b hne).1 o).trans (hb.mem o), by rw [(h2 0).base]; exact hb.ge, by have := hb.lt; simp; omega⟩

theorem sopAppend_ok (hs : St E.gl G H w) {t t' ty : TypeId} {s x : AV} {sv xv : Value} {p : Prop} {H' : List Blk} {r : AV} (h : sopAppend E H t t' s x = some (p, H', r)) (hp : p) (hsv : Val G s sv) (hxv : Val G x xv) :
    ∃ v w' G', (Builtin.append_ #[t, t'] ty #[sv, xv]).run E.P w = .ok v w' ∧ Ext H.length G w G' w' ∧ St E.gl G' H' w' ∧ Val G' r v ∧ H.length ≤ H'.length := by
  unfold sopAppend at h
  split at h
  · rename_i e sz sz' ys hix hsrc
    obtain ⟨hx, hsz⟩ := ixk_slice hix
    split at h
    · rename_i s0 as
      simp only [Option.some.injEq, Prod.mk.injEq] at h
      obtain ⟨rfl, rfl, rfl⟩ := h
      obtain ⟨hq1, hq2, hni, hsz0, ⟨z, hz, hzs⟩, by_, hby, hb0, hfit⟩ := hp
      have hsv1 : Val G (.sl sz as true) sv := by
        rcases hq1 with rfl | rfl
        · exact hsv.sl_nil
        · exact hsv
      obtain ⟨news, hu0, hs0⟩ := srcOf_ok (E := E) hs hsrc hxv
      have hu : ValU G sz ys news := by
        rcases hq2 with rfl | rfl
        · exact hu0.nil_any
        · exact hu0
      have hsrc' : Src E.P w sz xv ys.length news := by
        rcases hq2 with rfl | rfl
        · cases hu0; exact hs0.zero
        · exact hs0
      by_cases hy : ys = []
      · subst hy
        obtain ⟨G', h1, h2, h3⟩ := hs.tok_shared hsv1 rfl
        cases hu
        obtain ⟨i, hi, rfl⟩ := tsz_some hsz
        obtain ⟨d, hd, hdn⟩ := hni
        refine ⟨sv, w, G', ?_, h2 _ (Nat.le_refl _), by simpa using h1, by simpa using h3, by simp⟩
        have hc0 := hsrc'.cells 0 (by simp)
        have hl0 := hsrc'.len
        simp at hc0 hl0
        cases hsv1 with
        | nil =>
          simp only [Builtin.append_]
          simp [run_underlying hx, run_underlying hd, sizeOf, typeInfo, hi, hl0, hc0, pure]
        | sl hu1 hm1 hc1 hcl1 =>
          simp only [Builtin.append_]
          simp [run_underlying hx, run_underlying hd, sizeOf, typeInfo, hi, hl0, hc0, hc1, pure, storeCells]
      · have hlen : 0 < ys.length := List.length_pos_iff.2 hy
        have hsvf : Val G (.sl sz as false) sv := by
          cases hsv1 with
          | nil => exact .nil
          | sl a b c _ => exact .sl a b c (by simp)
        obtain ⟨v, w', G', h1, h2, h3, h4⟩ := append_grow_ok (ty := ty) hs hx hsz hz hby hb0 hni hsvf hu hsrc' (fun b n cap e => by
            subst e
            cases hsv1 with
            | nil => omega
            | sl _ _ _ hcl => have := hcl rfl; omega) hfit hzs (Nat.le_refl H.length) (fun i _ => hs.sup.rv_none i)
        have e : put H H.length (.tok sz (as ++ ys).length) = H ++ [.tok sz (as ++ ys).length] := by simp [put]
        exact ⟨v, w', G', h1, h2, e ▸ h3, h4, by simp⟩
    · rename_i s0 as k
      split at h
      · rename_i s1 n1 hk
        simp only [Option.some.injEq, Prod.mk.injEq] at h
        obtain ⟨rfl, rfl, rfl⟩ := h
        obtain ⟨rfl, rfl, rfl, hq2, hni, hsz0, ⟨z, hz, hzs⟩, by_, hby, hb0, hfit⟩ := hp
        have hkl : k < H.length := (List.getElem?_eq_some_iff.1 hk).1
        have hput : put H k (.tok s1 (as ++ ys).length) = H.set k (.tok s1 (as ++ ys).length) := by simp [put, hkl]
        obtain ⟨news, hu0, hs0⟩ := srcOf_ok (E := E) hs hsrc hxv
        have hu : ValU G s1 ys news := by
          rcases hq2 with rfl | rfl
          · exact hu0.nil_any
          · exact hu0
        have hsrc' : Src E.P w s1 xv ys.length news := by
          rcases hq2 with rfl | rfl
          · cases hu0; exact hs0.zero
          · exact hs0
        obtain ⟨i, hi, rfl⟩ := tsz_some hsz
        have hB := hs.blk k _ hk
        cases hsv with
        | sla hsv hrv =>
        have hsla : Val G (.sla i.size as k) sv := .sla hsv hrv
        have same : ys = [] → (∃ b cap, sv = .slice b as.length cap ∧ as.length ≤ cap) → ∃ v w' G', (Builtin.append_ #[t, t'] ty #[sv, xv]).run E.P w = .ok v w' ∧ Ext H.length G w G' w' ∧ St E.gl G' (H.set k (.tok i.size (as ++ ys).length)) w' ∧ Val G' (.sla i.size (as ++ ys) k) v ∧ H.length ≤ (H.set k (.tok i.size (as ++ ys).length)).length := by
          rintro rfl ⟨b, cap, rfl, hc⟩
          obtain ⟨d, hd, hdn⟩ := hni
          cases hu
          have hc0 := hsrc'.cells 0 (by simp)
          have hl0 := hsrc'.len
          simp at hc0 hl0
          have hset : H.set k (.tok i.size as.length) = H := by
            apply List.ext_getElem?
            intro j
            rw [List.getElem?_set]
            split
            · rename_i q; subst q; rw [hk]
            · rfl
          refine ⟨.slice b as.length cap, w, G, ?_, .refl _ _ _, by simpa [hset] using hs, by simpa using hsla, by simp⟩
          simp only [Builtin.append_]
          cases b <;> simp [run_underlying hx, run_underlying hd, sizeOf, typeInfo, hi, hl0, hc0, hc, pure, storeCells]
        have grow : ys ≠ [] → (∀ b n cap, sv = .slice b n cap → cap < n + ys.length) → (∀ j, as.length < j → G.rv k j = none) → ∃ v w' G', (Builtin.append_ #[t, t'] ty #[sv, xv]).run E.P w = .ok v w' ∧ Ext H.length G w G' w' ∧ St E.gl G' (H.set k (.tok i.size (as ++ ys).length)) w' ∧ Val G' (.sla i.size (as ++ ys) k) v ∧ H.length ≤ (H.set k (.tok i.size (as ++ ys).length)).length := by
          intro hy hcap hnone
          have hlen : 0 < ys.length := List.length_pos_iff.2 hy
          obtain ⟨v, w', G', h1, h2, h3, h4⟩ := append_grow_ok (ty := ty) hs hx hsz hz hby hb0 hni hsv hu hsrc' hcap hfit hzs (Nat.le_of_lt hkl) (fun j q => hnone j (by omega))
          exact ⟨v, w', G', h1, h2, hput ▸ h3, h4, by simp⟩
        cases hB with
        | shared hr hnone hsh =>
          rw [hrv] at hr; cases hr
          by_cases hy : ys = []
          · refine same hy ?_
            rcases hsh with ⟨rfl, h0⟩ | ⟨a, rfl⟩
            · exact ⟨none, 0, by rw [h0], by omega⟩
            · exact ⟨_, _, rfl, Nat.le_refl _⟩
          · have hlen : 0 < ys.length := List.length_pos_iff.2 hy
            refine grow hy (fun b n cap e => ?_) hnone
            rcases hsh with ⟨rfl, h0⟩ | ⟨a, rfl⟩ <;> cases e <;> omega
        | owned hr hnone hw hh hl hn hm =>
          rw [hrv] at hr; cases hr
          by_cases hy : ys = []
          · exact same hy ⟨_, _, rfl, hn⟩
          · have hlen : 0 < ys.length := List.length_pos_iff.2 hy
            rename_i b cap cs
            by_cases hroom : as.length + ys.length ≤ cap
            · obtain ⟨G', h1, h2, h3, h4, h5⟩ := hs.tok_room hk hsla hw hu hroom hlen
              have := run_append_room_src (ty := ty) hx hi hni hsrc' hu.length hu.ones hroom h4 h5
              exact ⟨_, _, G', this, h2 _, hput ▸ h1, h3, by simp⟩
            · exact grow hy (fun b n cap e => by cases e; omega) hnone
      · simp at h
    · simp at h
  · simp at h
end
end Go.Mc
