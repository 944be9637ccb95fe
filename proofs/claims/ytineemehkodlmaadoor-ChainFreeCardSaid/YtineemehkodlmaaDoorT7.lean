/- Abstract values and contracts of calls of the program: a part of the logic in which the claim is proved; it states nothing of the program by itself. -/
import Derived.Test.YtineemehkodlmaaDoorT6
set_option linter.all false
namespace Go.Mc
section
variable {E : Prg} {G : Ghost} {H : List Blk} {w : World} {p : Prop} {r a : AV} {x : Value}

theorem lopUn_ok {op : UnOp} (h : lopUn op a = some (p, r)) (hv : Val G a x) : ∃ v, (Op.unary op x).run E.P w = .ok v w ∧ Val G r v := by
  unfold lopUn at h
  split at h
  · simp only [Option.some.injEq, Prod.mk.injEq] at h
    obtain ⟨-, rfl⟩ := h
    obtain rfl := hv.inv_v
    exact ⟨_, by simp [Op.unary, pure], .v rfl⟩
  · simp only [Option.some.injEq, Prod.mk.injEq] at h
    obtain ⟨-, rfl⟩ := h
    obtain rfl := hv.inv_v
    exact ⟨_, by simp [Op.unary, Op.intArith, pure], .v rfl⟩
  · simp only [Option.some.injEq, Prod.mk.injEq] at h
    obtain ⟨-, rfl⟩ := h
    obtain rfl := hv.inv_v
    exact ⟨_, by simp [Op.unary, Op.intBits, inot, pure], .v rfl⟩
  · simp at h

theorem intk_some {P : Program} {t k} (h : intk P t = some k) : P.underlying t = some (.int k) := by
  unfold intk at h
  split at h
  · simp only [Option.some.injEq] at h; subst h; assumption
  · simp at h

theorem allB_cells {G : Ghost} : ∀ {as : List AV} {cs : List Value}, ValU G 1 as cs → allB as → cs = (as.map numAV).map (Value.int .u8)
  | _, _, .nil, _ => rfl
  | a :: as, _, .cons hv _ ht, hb => by
    have h1 := hb a (List.mem_cons_self ..)
    rw [h1] at hv
    have e := hv.inv_v
    subst e
    have := allB_cells ht fun a ha => hb a (List.mem_cons_of_mem _ ha)
    rw [this]
    simp [Value.cells]

theorem run_bytesStr {G : Ghost} {w : World} {P : Program} {gl : Nat → Option AV} {H : List Blk} (hs : St gl G H w) {s d e : TypeId} {as : List AV} {cl : Bool} {x : Value} (hS : P.underlying s = some (.slice e)) (he : P.underlying e = some (.int .u8)) (hd : P.underlying d = some .string)
    (hb : allB as) (hv : Val G (.sl 1 as cl) x) : (Go.convert s d x).run P w = .ok (.string (strAV as)) w := by
  cases hv with
  | nil => exact run_convert_bytes_nil w s e hS he 0 0 d hd
  | sl hu hm _ _ =>
    have hc := allB_cells hu hb
    subst hc
    refine run_convert_bytes_arg w s e hS he _ _ as.length _ (as.map numAV) (by simp) (fun i hi => ?_) d hd
    have := hs.mem _ _ _ (hm i (by simpa using hi))
    rw [this]
    simp [List.getD_eq_getElem?_getD, hi]

theorem lopConvert_ok {gl : Nat → Option AV} {H : List Blk} (hst : St gl G H w) {d s : TypeId} (h : lopConvert E d s a = some (p, r)) (hp : p) (hv : Val G a x) : ∃ v, (Go.convert s d x).run E.P w = .ok v w ∧ Val G r v := by
  unfold lopConvert at h
  split at h
  · split at h
    · rename_i k hk
      simp only [Option.some.injEq, Prod.mk.injEq] at h
      obtain ⟨rfl, rfl⟩ := h
      obtain ⟨ds, hds⟩ := Option.ne_none_iff_exists'.1 hp
      obtain rfl := hv.inv_v
      refine ⟨_, ?_, .v rfl⟩
      simp [Go.convert, run_underlying hds, run_underlying (intk_some hk), Conv.intToInt, pure]
    · simp at h
  · split at h
    · rename_i hk
      simp only [Option.some.injEq, Prod.mk.injEq] at h
      obtain ⟨rfl, rfl⟩ := h
      obtain ⟨ds, hds⟩ := Option.ne_none_iff_exists'.1 hp
      obtain rfl := hv.inv_v
      refine ⟨_, ?_, .v rfl⟩
      simp [Go.convert, run_underlying hds, run_underlying (ixk_str hk), pure]
    · simp at h
  · split at h
    · rename_i h1 h2
      simp only [Option.some.injEq, Prod.mk.injEq] at h
      obtain ⟨rfl, rfl⟩ := h
      obtain ⟨he, rfl, hb⟩ := hp
      exact ⟨_, run_bytesStr hst (ixk_slice h1).1 he (ixk_str h2) hb hv, .v rfl⟩
    · simp at h
  · split at h
    · rename_i h1 h2
      simp only [Option.some.injEq, Prod.mk.injEq] at h
      obtain ⟨rfl, rfl⟩ := h
      obtain ⟨he, rfl, hb⟩ := hp
      cases hv with
      | sla hv _ => exact ⟨_, run_bytesStr hst (ixk_slice h1).1 he (ixk_str h2) hb hv, .v rfl⟩
    · simp at h
  · simp at h

theorem lopLen_ok {t : TypeId} {ty : TypeId} (h : lopLen E t a = some (p, r)) (hv : Val G a x) : ∃ v, (Builtin.len_ #[t] ty #[x]).run E.P w = .ok v w ∧ Val G r v := by
  unfold lopLen at h
  split at h
  · rename_i hk
    have hu := (ixk_slice hk).1
    have key : ∀ (s : Nat) (as : List AV) (cl : Bool), Val G (.sl s as cl) x → ∃ v, (Builtin.len_ #[t] ty #[x]).run E.P w = .ok v w ∧ Val G (.v (.int .i64 as.length)) v := by
      intro s as cl hv
      cases hv with
      | nil => exact ⟨_, by simp [Builtin.len_, run_underlying hu, pure, goInt], .v rfl⟩
      | sl _ _ _ _ => exact ⟨_, by simp [Builtin.len_, run_underlying hu, pure, goInt], .v rfl⟩
    split at h
    · simp only [Option.some.injEq, Prod.mk.injEq] at h
      obtain ⟨-, rfl⟩ := h
      exact key _ _ _ hv
    · simp only [Option.some.injEq, Prod.mk.injEq] at h
      obtain ⟨-, rfl⟩ := h
      cases hv with
      | sla hv _ => exact key _ _ _ hv
    · simp only [Option.some.injEq, Prod.mk.injEq] at h
      obtain ⟨-, rfl⟩ := h
      cases hv with
      | asl hb _ => exact ⟨_, by simp [Builtin.len_, run_underlying hu, pure, goInt], .v rfl⟩
    · simp at h
  · rename_i hk
    have hu := (ixk_array hk).1
    simp only [Option.some.injEq, Prod.mk.injEq] at h
    obtain ⟨-, rfl⟩ := h
    exact ⟨_, by simp [Builtin.len_, run_underlying hu, pure, goInt], .v rfl⟩
  · rename_i hk
    have hu := ixk_str hk
    split at h
    · simp only [Option.some.injEq, Prod.mk.injEq] at h
      obtain ⟨-, rfl⟩ := h
      obtain rfl := hv.inv_v
      exact ⟨_, by simp [Builtin.len_, run_underlying hu, pure, goInt], .v rfl⟩
    · simp at h
  · simp at h

theorem bnd_ok {d : Nat} {o : Option AV} {j : Int} {ov : Option Value} (h : bnd d o = some j) (hv : (o = none ∧ ov = none) ∨ ∃ a v, o = some a ∧ ov = some v ∧ Val G a v) :
    (o = none ∧ ov = none ∧ j = d) ∨ ∃ k, ov = some (.int k j) := by
  rcases hv with ⟨rfl, rfl⟩ | ⟨a, v, rfl, rfl, hv⟩
  · simp [bnd] at h; exact .inl ⟨rfl, rfl, h.symm⟩
  · unfold bnd at h
    split at h <;> simp_all
    obtain rfl := hv.inv_v
    exact ⟨_, rfl⟩

/-- an optional operand -/
def OptVal (G : Ghost) (o : Option AV) (ov : Option Value) : Prop := (o = none ∧ ov = none) ∨ ∃ a v, o = some a ∧ ov = some v ∧ Val G a v

theorem run_sliceBound_int {P : Program} (k : IntKind) (i : Int) (y : Nat) (c : BoundsCode) (h0 : 0 ≤ i) (h1 : i ≤ y) : (Instr.sliceBound (.int k i) y c).run P w = .ok i.toNat w := by
  simp [Instr.sliceBound, asIntOf, h0, h1, pure]

/-- the three bounds -/
theorem run_bounds {P : Program} {isSl : Bool} {len cap : Nat} {lo hi : Option AV} {lov hiv : Option Value} {l h : Int} (hl : bnd 0 lo = some l) (hh : bnd len hi = some h)
    (vl : OptVal G lo lov) (vh : OptVal G hi hiv) (h0 : 0 ≤ l) (h1 : l ≤ h) (h2 : h ≤ len) (hc : len ≤ cap) :
    (Instr.sliceBounds isSl len cap lov hiv none).run P w = .ok (l.toNat, h.toNat, cap) w := by
  rcases bnd_ok hl vl with ⟨-, rfl, rfl⟩ | ⟨k, rfl⟩ <;> rcases bnd_ok hh vh with ⟨-, rfl, rfl⟩ | ⟨k', rfl⟩
  · simp [Instr.sliceBounds, pure]
  · simp [Instr.sliceBounds, pure, run_sliceBound_int k' h cap _ (by omega) (by omega)]
  · simp [Instr.sliceBounds, pure, run_sliceBound_int k l len _ (by omega) (by omega)]
  · simp [Instr.sliceBounds, pure, run_sliceBound_int k' h cap _ (by omega) (by omega), run_sliceBound_int k l h.toNat _ (by omega) (by omega)]
theorem run_bounds_max {P : Program} {len cap : Nat} {lo hi : Option AV} {lov hiv : Option Value} {l h : Int} {km : IntKind} {m : Int} (hl : bnd 0 lo = some l) (hh : bnd len hi = some h)
    (vl : OptVal G lo lov) (vh : OptVal G hi hiv) (hne : hi.isSome = true) (h0 : 0 ≤ l) (h1 : l ≤ h) (h2 : h ≤ m) (h3 : m ≤ len) (hc : len ≤ cap) :
    (Instr.sliceBounds true len cap lov hiv (some (.int km m))).run P w = .ok (l.toNat, h.toNat, m.toNat) w := by
  rcases bnd_ok hl vl with ⟨-, rfl, rfl⟩ | ⟨k, rfl⟩ <;> rcases bnd_ok hh vh with ⟨rfl, rfl, rfl⟩ | ⟨k', rfl⟩
  · simp at hne
  · simp [Instr.sliceBounds, pure, run_sliceBound_int km m cap _ (by omega) (by omega), run_sliceBound_int k' h m.toNat _ (by omega) (by omega)]
  · simp at hne
  · simp [Instr.sliceBounds, pure, run_sliceBound_int km m cap _ (by omega) (by omega), run_sliceBound_int k' h m.toNat _ (by omega) (by omega), run_sliceBound_int k l h.toNat _ (by omega) (by omega)]

/-- a part of an immutable slice -/
theorem Val.sub_slice {sz : Nat} {as : List AV} {b off l h m : Nat} {cs : List Value} (hu : ValU G sz as cs) (hm : ∀ i (q : i < cs.length), G.mem b (off + i) = some cs[i]) (h1 : l ≤ h) (h2 : h ≤ as.length) (h3 : h ≤ m) (cl : Bool) (hcl : cl = true → m = h) :
    Val G (.sl sz ((as.take h).drop l) cl) (.slice (if m = l then some ⟨b, off, none⟩ else (some ⟨b, off, none⟩ : Option Addr).map (·.add (l * sz))) (h - l) (m - l)) := by
  have hlen : ((as.take h).drop l).length = h - l := by simp; omega
  by_cases hml : m = l
  · have : h = l := by omega
    subst this
    have e : (as.take h).drop h = [] := by simp
    rw [e, if_pos hml, ← hml]
    have := Val.sl (G := G) (sz := sz) (as := []) (cl := cl) (b := b) (off := off) (cap := 0) (cs := []) .nil (by simp) (by simp) (by simp)
    simpa [hml] using this
  · rw [if_neg hml]
    simp only [Option.map_some, addr_add]
    have hu' := (hu.take h).drop l
    have := Val.sl (cl := cl) (b := b) (off := off + l * sz) (cap := m - l) hu' (fun i hi => by
      have hi' : i < (cs.take (h * sz)).length - l * sz := by simpa using hi
      have hi2 : l * sz + i < cs.length := by simp at hi'; omega
      rw [Nat.add_assoc, hm _ hi2]
      simp) (by rw [hlen]; omega) (fun q => by rw [hlen]; have := hcl q; omega)
    rwa [hlen] at this

theorem lopSlice_ok {t : TypeId} {lo hi mx : Option AV} {lov hiv mxv : Option Value} (h : lopSlice E H t a lo hi mx = some (p, r)) (hp : p) (hs : St E.gl G H w) (hv : Val G a x)
    (vl : OptVal G lo lov) (vh : OptVal G hi hiv) (vm : OptVal G mx mxv) (hmx : mx.isSome = true → hi.isSome = true) : ∃ v, (Instr.sliceAt t x lov hiv mxv).run E.P w = .ok v w ∧ Val G r v := by
  have none_eq : mx = none → mxv = none := by rintro rfl; rcases vm with ⟨-, e⟩ | ⟨_, _, e, -⟩; exact e; simp at e
  unfold lopSlice at h
  split at h
  · rename_i e sz hx
    obtain ⟨hu, hsz⟩ := ixk_slice hx
    have run1 : ∀ (ad : Option Addr) (len cap l h m : Nat), (Instr.sliceBounds true len cap lov hiv mxv).run E.P w = .ok (l, h, m) w →
        (Instr.sliceAt t (.slice ad len cap) lov hiv mxv).run E.P w = .ok (.slice (if m = l then ad else ad.map (·.add (l * sz))) (h - l) (m - l)) w := by
      intro ad len cap l h m hb
      simp [Instr.sliceAt, Instr.slice, run_underlying hu, hb, run_sizeOf' hsz, pure]
    have key1 : ∀ (s : Nat) (as : List AV) (cl : Bool) (l j : Int) (cl' : Bool), Val G (.sl s as cl) x → mx = none → bnd 0 lo = some l → bnd as.length hi = some j → 0 ≤ l → l ≤ j → j ≤ as.length → s = sz → (cl' = true → cl = true ∧ j = as.length) →
        ∃ v, (Instr.sliceAt t x lov hiv mxv).run E.P w = .ok v w ∧ Val G (.sl sz ((as.take j.toNat).drop l.toNat) cl') v := by
      intro s as cl l j cl' hv hmn hl hh h0 h1 h2 hss hcl
      subst hss
      obtain rfl := none_eq hmn
      cases hv with
      | nil =>
        have : j = 0 ∧ l = 0 := by simp at h2; omega
        obtain ⟨rfl, rfl⟩ := this
        have hb := run_bounds (w := w) (P := E.P) (isSl := true) (cap := 0) hl hh vl vh h0 h1 h2 (by simp)
        refine ⟨_, run1 _ _ _ _ _ _ hb, ?_⟩
        simpa using Val.nil
      | sl hu' hm hc hcl0 =>
        have hb := run_bounds (w := w) (P := E.P) (isSl := true) hl hh vl vh h0 h1 h2 hc
        exact ⟨_, run1 _ _ _ _ _ _ hb, Val.sub_slice hu' hm (by omega) (by omega) (by omega) _ (fun q => by have := hcl q; have := hcl0 this.1; omega)⟩
    have key2 : ∀ (s : Nat) (as : List AV) (cl : Bool) (l j : Int) (km : IntKind) (m : Int), Val G (.sl s as cl) x → mx = some (.v (.int km m)) → bnd 0 lo = some l → bnd as.length hi = some j → 0 ≤ l → l ≤ j → j ≤ m → m ≤ as.length → s = sz →
        ∃ v, (Instr.sliceAt t x lov hiv mxv).run E.P w = .ok v w ∧ Val G (.sl sz ((as.take j.toNat).drop l.toNat) (m == j)) v := by
      intro s as cl l j km m hv hmn hl hh h0 h1 h2 h3 hss
      subst hss
      have hmv : mxv = some (.int km m) := by
        rcases vm with ⟨e, -⟩ | ⟨a', v', e, e', hv'⟩
        · rw [hmn] at e; simp at e
        · rw [hmn] at e; cases e; rw [e', hv'.inv_v]
      subst hmv
      have hne := hmx (by rw [hmn]; rfl)
      cases hv with
      | nil =>
        have : j = 0 ∧ l = 0 ∧ m = 0 := by simp at h3; omega
        obtain ⟨rfl, rfl, rfl⟩ := this
        have hb := run_bounds_max (w := w) (P := E.P) (cap := 0) (km := km) hl hh vl vh hne h0 h1 h2 h3 (by simp)
        refine ⟨_, run1 _ _ _ _ _ _ hb, ?_⟩
        simpa using Val.nil
      | sl hu' hm hc hcl0 =>
        have hb := run_bounds_max (w := w) (P := E.P) (km := km) hl hh vl vh hne h0 h1 h2 h3 hc
        exact ⟨_, run1 _ _ _ _ _ _ hb, Val.sub_slice hu' hm (by omega) (by omega) (by omega) _ (fun q => by simp at q; omega)⟩
    split at h
    · rename_i s as cl
      split at h
      · rename_i l hh' e1 e2
        simp only [Option.some.injEq, Prod.mk.injEq] at h
        obtain ⟨rfl, rfl⟩ := h
        obtain ⟨h0, h1, h2, h3⟩ := hp
        refine key1 _ _ _ _ _ _ hv rfl e1 e2 h0 h1 h2 h3 (fun q => ?_)
        simp only [Bool.and_eq_true, Option.isNone_iff_eq_none] at q
        obtain ⟨q1, q2⟩ := q
        subst q2
        simp [bnd] at e2
        exact ⟨q1, e2.symm⟩
      · rename_i l hh' km m e1 e2
        simp only [Option.some.injEq, Prod.mk.injEq] at h
        obtain ⟨rfl, rfl⟩ := h
        obtain ⟨h0, h1, h2, h3, h4⟩ := hp
        exact key2 _ _ _ _ _ _ _ hv rfl e1 e2 h0 h1 h2 h3 h4
      · simp at h
    · rename_i s as k
      cases hv with
      | sla hv hrv =>
      split at h
      · rename_i l hh' e1 e2
        simp only [Option.some.injEq, Prod.mk.injEq] at h
        obtain ⟨rfl, rfl⟩ := h
        obtain ⟨h0, h1, h2, h3⟩ := hp
        exact key1 _ _ _ _ _ _ hv rfl e1 e2 h0 h1 h2 h3 (by simp)
      · rename_i l hh' km m e1 e2
        simp only [Option.some.injEq, Prod.mk.injEq] at h
        obtain ⟨rfl, rfl⟩ := h
        obtain ⟨h0, h1, h2, h3, h4⟩ := hp
        exact key2 _ _ _ _ _ _ _ hv rfl e1 e2 h0 h1 h2 h3 h4
      · simp at h
    · simp at h
  · rename_i n e sz hx
    obtain ⟨hu, hsz⟩ := ixk_array hx
    have run1 : ∀ (b off l h m : Nat), (Instr.sliceBounds false n n lov hiv mxv).run E.P w = .ok (l, h, m) w →
        (Instr.sliceAt t (.pointer (some ⟨b, off, none⟩)) lov hiv mxv).run E.P w = .ok (.slice (if m = l then some ⟨b, off, none⟩ else (some ⟨b, off, none⟩ : Option Addr).map (·.add (l * sz))) (h - l) (m - l)) w := by
      intro b off l h m hb
      simp [Instr.sliceAt, run_underlying hu, hb, run_sizeOf' hsz, pure, run_sureAddr_some]
      split <;> rfl
    have key : ∀ (s : Nat) (as : List AV) (b off : Nat) (y : Value) (l j : Int), Val G (.arr s as) y → (∀ i (q : i < y.cells.size), G.mem b (off + i) = some y.cells[i]) → mx = none → bnd 0 lo = some l → bnd n hi = some j → 0 ≤ l → l ≤ j → j ≤ n → s = sz → as.length = n →
        ∃ v, (Instr.sliceAt t (.pointer (some ⟨b, off, none⟩)) lov hiv mxv).run E.P w = .ok v w ∧ Val G (.sl sz ((as.take j.toNat).drop l.toNat) hi.isNone) v := by
      intro s as b off y l j hv hm hmn hl hh h0 h1 h2 hss hlen
      subst hss
      obtain rfl := none_eq hmn
      have hb := run_bounds (w := w) (P := E.P) (isSl := false) hl hh vl vh h0 h1 h2 (Nat.le_refl n)
      cases hv with
      | arr hu' =>
        refine ⟨_, run1 _ _ _ _ _ hb, Val.sub_slice hu' (fun i q => by simpa [agg_cells] using hm i (by simpa [agg_cells] using q)) (by omega) (by omega) (by omega) _ (fun q => ?_)⟩
        rw [Option.isNone_iff_eq_none] at q; subst q
        simp [bnd] at hh; omega
    split at h
    · rename_i k pa off
      split at h
      · rename_i c hk
        split at h
        · rename_i o s as e
          split at h
          · rename_i l hh' e1 e2
            simp only [Option.some.injEq, Prod.mk.injEq] at h
            obtain ⟨rfl, rfl⟩ := h
            obtain ⟨h0, h1, h2, h3, h4, rfl⟩ := hp
            have hB := hs.blk k _ hk
            cases hB with
            | froz hvc hb hm =>
              cases hv with
              | ptr hb' =>
                rw [hb] at hb'; cases hb'
                have := Val.cptr_sub (off := 0) hvc (fun i q => by simpa using hm i q) e
                rw [Nat.zero_add] at this
                cases this with
                | cptr hv hm => exact key _ _ _ _ _ _ _ hv hm rfl e1 e2 h0 h1 h2 h3 h4
          · simp at h
        · simp at h
      · split at h
        · simp only [Option.some.injEq, Prod.mk.injEq] at h
          obtain ⟨rfl, rfl⟩ := h
          obtain rfl := none_eq rfl
          cases hv with
          | ptr hb =>
            rename_i b
            have hb1 := run_bounds (w := w) (P := E.P) (G := G) (isSl := false) (len := n) (cap := n) (lo := none) (hi := none) (l := 0) (h := n) (by simp [bnd]) (by simp [bnd]) vl vh (by omega) (by omega) (by omega) (Nat.le_refl n)
            refine ⟨_, run1 _ _ _ _ _ hb1, ?_⟩
            have : (if n = (0 : Int).toNat then some (⟨b, off, none⟩ : Addr) else (some (⟨b, off, none⟩ : Addr)).map (·.add ((0 : Int).toNat * sz))) = some ⟨b, off, none⟩ := by
              split
              · rfl
              · simp [Addr.add]
            rw [this]
            simpa using Val.asl hb (Nat.le_refl _)
        · simp at h
      · simp at h
    · rename_i s as
      split at h
      · rename_i l hh' e1 e2
        simp only [Option.some.injEq, Prod.mk.injEq] at h
        obtain ⟨rfl, rfl⟩ := h
        obtain ⟨h0, h1, h2, h3, h4⟩ := hp
        cases hv with
        | cptr hv hm => exact key _ _ _ _ _ _ _ hv hm rfl e1 e2 h0 h1 h2 h3 h4
      · simp at h
    · simp at h
  · rename_i hx
    have hu := ixk_str hx
    split at h
    · rename_i s
      split at h
      · rename_i l hh' e1 e2
        simp only [Option.some.injEq, Prod.mk.injEq] at h
        obtain ⟨rfl, rfl⟩ := h
        obtain ⟨h0, h1, h2⟩ := hp
        obtain rfl := none_eq rfl
        obtain rfl := hv.inv_v
        have hb := run_bounds (w := w) (P := E.P) (isSl := false) e1 e2 vl vh h0 h1 h2 (Nat.le_refl s.size)
        exact ⟨_, by simp [Instr.sliceAt, Instr.slice, run_underlying hu, hb, pure], .v rfl⟩
      · simp at h
    · simp at h
  · simp at h

theorem lopMinMax_ok {mx : Bool} {b : AV} {y : Value} {ts : Array TypeId} {ty : TypeId} (h : lopMinMax mx a b = some (p, r)) (hv : Val G a x) (hv' : Val G b y) :
    ∃ v, ((if mx then Builtin.max_ ts ty #[x, y] else Builtin.min_ ts ty #[x, y])).run E.P w = .ok v w ∧ Val G r v := by
  unfold lopMinMax at h
  split at h
  · simp only [Option.some.injEq, Prod.mk.injEq] at h
    obtain ⟨-, rfl⟩ := h
    obtain rfl := hv.inv_v
    obtain rfl := hv'.inv_v
    cases mx <;> exact ⟨_, by simp [Builtin.max_, Builtin.min_, Builtin.max2, Builtin.min2, pure], .v rfl⟩
  · simp at h
end
end Go.Mc
