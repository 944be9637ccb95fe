/- Contracts of functions of the program. -/
import Derived.Test.YtineemehkodlmaaDoorD2
set_option linter.all false
set_option maxRecDepth 100000
namespace Go.Mc
open Go.Proofs

theorem Wk.nil {sz sz' : Nat} {cl : Bool} : Wk (.sl sz [] cl) (.sl sz' [] false) := Wk.trans .sl .empty
theorem AM.loopX {E : Prg} {f : FuncId} {m : Nat} {k : List Item} {H : List Blk} {ts : List AV} {Q : List Blk → Res → Prop} {c : Code} {α : Type} (P : α → Prop) (meas : α → Nat) (Hf : α → List Blk) (tf : α → List AV) (v0 : α) (h0 : P v0) (hw : WkL ts (tf v0)) (hH : H = Hf v0)
    (h : ∀ v, P v → (∀ v', P v' → meas v' < meas v → ∀ ts' H', WkL ts' (tf v') → H' = Hf v' → AM E f m (.inLoop c :: k) H' ts' Q) → AM E f m (.code c :: .inLoop c :: k) (Hf v) (tf v) Q) : AM E f m (.code (.loop c) :: k) H ts Q := by
  subst hH
  refine AM.wk hw (AM.rounds (I := fun n H' ts => ∃ v, P v ∧ n = meas v ∧ H' = Hf v ∧ ts = tf v) (n := meas v0) ⟨v0, h0, rfl, rfl, rfl⟩ ?_)
  rintro n H' ts ⟨v, hv, rfl, rfl, rfl⟩ ih
  exact h v hv fun v' hv' hl ts' H' hw' he => by subst he; exact AM.wk hw' (ih _ _ _ hl ⟨v', hv', rfl, rfl, rfl⟩)
theorem AM.tokenNil {E : Prg} {f : FuncId} {m : Nat} {k : List Item} {H : List Blk} {ts : List AV} {Q : List Blk → Res → Prop} {j sz : Nat} (sz' : Nat) (ht : ts[j]? = some (.sl sz [] true)) (h : AM E f m k (H ++ [.tok sz' 0]) (ts.set j (.sla sz' [] H.length)) Q) : AM E f m k H ts Q := by
  have hj : j < ts.length := (List.getElem?_eq_some_iff.1 ht).1
  have hg : ts[j] = .sl sz [] true := (List.getElem?_eq_some_iff.1 ht).2
  refine AM.wk (ts' := ts.set j (.sl sz' [] true)) ?_ (AM.token (j := j) (sz := sz') («as» := []) (by simp [hj]) (by simpa using h))
  have key : ∀ (l : List AV) (j : Nat), l[j]? = some (.sl sz [] true) → WkL l (l.set j (.sl sz' [] true)) := by
    intro l
    induction l with
    | nil => intro j h; simp at h
    | cons a l ih =>
      intro j h
      cases j with
      | zero =>
        simp only [List.getElem?_cons_zero, Option.some.injEq] at h
        subst h
        exact .cons (fun G x hv => by cases hv with | nil => exact .nil | sl a b c d => cases a; exact .sl .nil (fun i hi => by simp at hi) (by simp) (by simpa using d)) (.refl _)
      | succ j => simpa using .cons (.refl _) (ih j (by simpa using h))
  exact key ts j ht
theorem ACalls.useW {E : Prg} {g : FuncId} {avs avs' : List AV} {H H' : List Blk} {r : AV} {K : List Blk → AV → Prop} {Q : List Blk → Res → Prop} (hw : WkL avs avs') (hc : ACalls E g avs' H (Gives H' r)) (hk : K H' r) :
    ACalls E g avs H (fun H' r => match r with | .ret a => @Lock ⟨K H' a⟩ | .pan a => Q H' (.pan a)) := ACalls.use (ACalls.args hw hc) hk
/-- a call whose contract says what may come back -/
def Some1 {α : Type} (p : α → Prop) (H : α → List Blk) (r : α → AV) : List Blk → Res → Prop := fun H' e => ∃ x, p x ∧ H' = H x ∧ e = .ret (r x)
theorem ACalls.useX {E : Prg} {g : FuncId} {avs avs' : List AV} {H : List Blk} {α : Type} {p : α → Prop} {Hf : α → List Blk} {rf : α → AV} {K : List Blk → AV → Prop} {Q : List Blk → Res → Prop} (hw : WkL avs avs') (hc : ACalls E g avs' H (Some1 p Hf rf)) (hk : ∀ x, p x → K (Hf x) (rf x)) :
    ACalls E g avs H (fun H' r => match r with | .ret a => @Lock ⟨K H' a⟩ | .pan a => Q H' (.pan a)) := by
  refine (ACalls.args hw hc).mono fun H2 r2 h => ?_
  obtain ⟨x, h1, rfl, rfl⟩ := h
  exact hk x h1

/-- the closure that looks for a key and a message -/
theorem c_find1 (x : Mac) (key msg : List UInt8) (hx : x.key.length = 32) (hk : key.length = 32) {H : List Blk} {k1 k2 : Nat} (h1 : H[k1]? = some (.obj (.arr 1 (key.map u8)))) (h2 : H[k2]? = some (.obj (.sl 1 (msg.map u8) false))) :
    ACalls E 127 [eMac x, .ptr k1 [] 0, .ptr k2 [] 0] H (Gives H (.v (.bool (x.key == key && x.msg == msg)))) := by
  have l1 : k1 < H.length := (List.getElem?_eq_some_iff.1 h1).1
  have l2 : k2 < H.length := (List.getElem?_eq_some_iff.1 h2).1
  refine ACalls.tidy (by simp) (ACalls.enter Tryd.call127 Tryd.func127 rfl ?_)
  refine AW.sound nopl mixed Tryd.func127 (by rw [Tryd.results127]) 1000 ?_
  simp -implicitDefEqProofs only [↓reduceIte, go_sem, Tryd.ntmps127]
  simp -implicitDefEqProofs only [↓reduceIte, go_sem, hgetL l1, hgetL l2, h1, h2, hx, hk]
  refine brk.mk (fun q => ?_) (fun q => ?_)
  · simp -implicitDefEqProofs only [↓reduceIte, go_sem, hgetL l1, hgetL l2, h1, h2, hx, hk, q]
    refine ACalls.use (c_Equal _ _ _) ?_
    simp -implicitDefEqProofs only [↓reduceIte, go_sem, q]
    exact .ext (.refl _) trivial
  · simp -implicitDefEqProofs only [↓reduceIte, go_sem, hgetL l1, hgetL l2, h1, h2, hx, hk, q]
    exact .ext (.refl _) trivial

/-- the first place where p holds, or -1 -/
def idxL {α : Type} (p : α → Bool) (l : List α) : Int := match l.findIdx? p with
  | some i => i
  | none => -1

theorem c_IndexMac (l : List Mac) (p : Mac → Bool) (f : FuncId) (fs cs : List AV) (hb : l.length ≤ 65536) (H : List Blk) (hc : ∀ x ∈ l, ACalls E f (fs ++ [eMac x] ++ cs) H (Gives H (.v (.bool (p x))))) :
    ACalls E 126 [.sl 65 (l.map eMac) false, .clo f fs cs] H (Gives H (.v (.int .i64 (idxL p l)))) := by
  refine ACalls.tidy (by simp) (ACalls.enter Tryd.call126 Tryd.func126 rfl ?_)
  refine AW.sound nopl mixed Tryd.func126 (by rw [Tryd.results126]) 1000 ?_
  simp -implicitDefEqProofs only [↓reduceIte, go_sem, Tryd.ntmps126]
  refine Lock.mk ?_
  refine AM.wk (ts' := [.sl 65 (l.map eMac) false, .clo f fs cs, .any, .any, .any, .any, .any, .v (.int .i64 l.length), .v (.int .i64 (0 : Nat)), .any, .any, .any, .any, .any, .any, .any, .any, .any, .any]) (by repeat (first | exact WkL.nil | refine WkL.cons (Wk.refl _) ?_ | refine WkL.cons (Wk.any _) ?_)) ?_
  refine AM.rounds (I := fun n H' ts => ∃ i : Nat, i ≤ l.length ∧ n = l.length - i ∧ (∀ j (h : j < l.length), j < i → p l[j] = false) ∧ H' = H ∧ ts = [.sl 65 (l.map eMac) false, .clo f fs cs, .any, .any, .any, .any, .any, .v (.int .i64 l.length), .v (.int .i64 i), .any, .any, .any, .any, .any, .any, .any, .any, .any, .any]) (n := l.length) ⟨0, by omega, by omega, fun j _ q => by omega, rfl, rfl⟩ ?_
  rintro n H' ts ⟨i, hi, rfl, hp, rfl, rfl⟩ ih
  refine AW.sound nopl mixed Tryd.func126 (by rw [Tryd.results126]) 1000 ?_
  simp -implicitDefEqProofs only [↓reduceIte, go_sem]
  refine brk.dec (fun q => ?_) (fun q => ?_)
  · have q1 : i < l.length := by omega
    simp -implicitDefEqProofs only [↓reduceIte, go_sem, q1, getD_mac q1]
    have hci := hc l[i] (List.getElem_mem q1)
    simp only [go_sem] at hci
    refine ACalls.use hci ?_
    simp -implicitDefEqProofs only [↓reduceIte, go_sem]
    refine brk.mk (fun q2 => ?_) (fun q2 => ?_)
    · simp -implicitDefEqProofs only [↓reduceIte, go_sem]
      have e : idxL p l = i := by
        have : l.findIdx? p = some i := List.findIdx?_eq_some_iff_getElem.2 ⟨q1, q2, fun j hj => by simp [hp j (by omega) hj]⟩
        rw [idxL, this]
      rw [e]
      exact .here (.refl _) trivial
    · simp -implicitDefEqProofs only [↓reduceIte, go_sem]
      refine Lock.mk ?_
      simp -implicitDefEqProofs (disch := omega) only [↓reduceIte, go_sem, wrap64]
      refine AM.wk ?_ (ih (l.length - (i + 1)) H' _ (by omega) ⟨i + 1, q1, rfl, fun j h1 h2 => ?_, rfl, rfl⟩)
      · repeat (first | exact WkL.nil | refine WkL.cons (Wk.refl _) ?_ | refine WkL.cons (Wk.any _) ?_ | refine WkL.cons (Wk.int (by omega)) ?_)
      · rcases Nat.lt_or_ge j i with h3 | h3
        · exact hp j h1 h3
        · obtain rfl : j = i := by omega
          exact q2
  · simp -implicitDefEqProofs only [↓reduceIte, go_sem]
    have e : idxL p l = -1 := by
      have : l.findIdx? p = none := List.findIdx?_eq_none_iff.2 fun x hx => by
        obtain ⟨j, h1, rfl⟩ := List.mem_iff_getElem.1 hx
        exact hp j h1 (by omega)
      rw [idxL, this]
    rw [e]
    exact .here (.refl _) trivial

theorem c_find (l : List Mac) (hl : ∀ x ∈ l, x.key.length = 32) (hb : l.length ≤ 65536) (key msg : List UInt8) (hk : key.length = 32) (H : List Blk) :
    ACalls E 107 [.sl 65 (l.map eMac) false, .arr 1 (key.map u8), .sl 1 (msg.map u8) false] H (Gives H (.v (.int .i64 (idxL (fun x => x.key == key && x.msg == msg) l)))) := by
  refine ACalls.tidy (by simp) (ACalls.enter Tryd.call107 Tryd.func107 rfl ?_)
  refine AW.sound nopl mixed Tryd.func107 (by rw [Tryd.results107]) 1000 ?_
  simp -implicitDefEqProofs only [↓reduceIte, go_sem, Tryd.ntmps107]
  refine ACalls.use (c_IndexMac l _ _ _ _ hb _ fun x hx => c_find1 x key msg (hl x hx) hk (by simp only [go_sem]) (by simp only [go_sem])) ?_
  simp -implicitDefEqProofs only [↓reduceIte, go_sem]
  exact .ext (.refl _) trivial

theorem MkAt.app {W : List Blk} {k t1 t2 : Nat} {m : Mk} (h : MkAt W k t1 t2 m) (l : List Blk) : MkAt (W ++ l) k t1 t2 m := by
  obtain ⟨h1, h2, h3⟩ := h.lt
  exact ⟨by rw [hgetL h1, h.obj], by rw [hgetL h2, h.k1], by rw [hgetL h3, h.k2], h.d1, h.d2, h.d3⟩
theorem MkPut.app {W : List Blk} {k t1 t2 : Nat} {m : Mk} (h : MkAt W k t1 t2 m) (l : List Blk) (m' : Mk) : MkPut (W ++ l) k t1 t2 m' = MkPut W k t1 t2 m' ++ l := by
  obtain ⟨h1, h2, h3⟩ := h.lt
  rw [MkPut, hsetL h2, hsetL (by simp; omega), hsetL (by simp; omega), ← MkPut]
theorem MkPut.put {W : List Blk} {k t1 t2 : Nat} {m : Mk} (h : MkAt W k t1 t2 m) (m' m'' : Mk) : MkPut (MkPut W k t1 t2 m') k t1 t2 m'' = MkPut W k t1 t2 m'' := by
  have d1 := h.d1; have d2 := h.d2; have d3 := h.d3
  apply List.ext_getElem?
  intro j
  simp only [MkPut, List.getElem?_set, List.length_set]
  by_cases q1 : k = j <;> by_cases q2 : t2 = j <;> by_cases q3 : t1 = j <;> simp [q1, q2, q3]
theorem Mk.fail_e {m : Mk} {e : Int} (h : m.e ≠ 0) : m.fail e = m := by cases m; simp_all [Mk.fail]
attribute [go_sem] MkPut.len
theorem MkAt.got {W : List Blk} {k t1 t2 : Nat} {m : Mk} (h : MkAt W k t1 t2 m) (m' : Mk) (l : List Blk) : (MkPut W k t1 t2 m' ++ l)[k]? = some (.obj (eMk m' t1 t2)) := by
  rw [hgetL (by rw [MkPut.len]; exact h.lt.1)]; exact (h.put m').obj
theorem MkAt.got0 {W : List Blk} {k t1 t2 : Nat} {m : Mk} (h : MkAt W k t1 t2 m) (l : List Blk) : (W ++ l)[k]? = some (.obj (eMk m t1 t2)) := by
  rw [hgetL h.lt.1]; exact h.obj
@[go_sem] theorem hgetM (W : List Blk) (k t1 t2 : Nat) (m : Mk) (l : List Blk) (j : Nat) : (MkPut W k t1 t2 m ++ l)[W.length + j]? = l[j]? := by
  rw [← MkPut.len W k t1 t2 m, hget]
@[go_sem] theorem hgetM0 (W : List Blk) (k t1 t2 : Nat) (m : Mk) (l : List Blk) : (MkPut W k t1 t2 m ++ l)[W.length]? = l[0]? := by
  rw [← MkPut.len W k t1 t2 m, hget0]
@[go_sem] theorem hsetM (W : List Blk) (k t1 t2 : Nat) (m : Mk) (l : List Blk) (j : Nat) (b : Blk) : (MkPut W k t1 t2 m ++ l).set (W.length + j) b = MkPut W k t1 t2 m ++ l.set j b := by
  rw [← MkPut.len W k t1 t2 m, hset]
@[go_sem] theorem hsetM0 (W : List Blk) (k t1 t2 : Nat) (m : Mk) (l : List Blk) (b : Blk) : (MkPut W k t1 t2 m ++ l).set W.length b = MkPut W k t1 t2 m ++ l.set 0 b := by
  rw [← MkPut.len W k t1 t2 m, hset0]

theorem MkAt.tok1 {W : List Blk} {k t1 t2 : Nat} {m : Mk} (h : MkAt W k t1 t2 m) (l : List Blk) : (W ++ l)[t1]? = some (.tok 65 m.a.macs.length) := by
  rw [hgetL h.lt.2.1]; exact h.k1
theorem MkAt.tok2 {W : List Blk} {k t1 t2 : Nat} {m : Mk} (h : MkAt W k t1 t2 m) (l : List Blk) : (W ++ l)[t2]? = some (.tok 35 m.a.boxes.length) := by
  rw [hgetL h.lt.2.2]; exact h.k2
theorem MkAt.got1 {W : List Blk} {k t1 t2 : Nat} {m : Mk} (h : MkAt W k t1 t2 m) (b : Blk) (l : List Blk) : (W.set t1 b ++ l)[k]? = some (.obj (eMk m t1 t2)) := by
  have := h.d1
  rw [hgetL (by rw [List.length_set]; exact h.lt.1), List.getElem?_set_ne (by omega)]; exact h.obj
theorem MkAt.got2 {W : List Blk} {k t1 t2 : Nat} {m : Mk} (h : MkAt W k t1 t2 m) (b : Blk) (l : List Blk) : (W.set t2 b ++ l)[k]? = some (.obj (eMk m t1 t2)) := by
  have := h.d2
  rw [hgetL (by rw [List.length_set]; exact h.lt.1), List.getElem?_set_ne (by omega)]; exact h.obj
theorem MkAt.put1 {W : List Blk} {k t1 t2 : Nat} {m : Mk} (h : MkAt W k t1 t2 m) (b : Blk) (l : List Blk) : (W ++ l).set t1 b = W.set t1 b ++ l := hsetL h.lt.2.1
theorem MkAt.put2 {W : List Blk} {k t1 t2 : Nat} {m : Mk} (h : MkAt W k t1 t2 m) (b : Blk) (l : List Blk) : (W ++ l).set t2 b = W.set t2 b ++ l := hsetL h.lt.2.2
theorem MkAt.put1k {W : List Blk} {k t1 t2 : Nat} {m : Mk} (h : MkAt W k t1 t2 m) (b c : Blk) (l : List Blk) : (W.set t1 b ++ l).set k c = (W.set t1 b).set k c ++ l := hsetL (by rw [List.length_set]; exact h.lt.1)
theorem MkAt.put2k {W : List Blk} {k t1 t2 : Nat} {m : Mk} (h : MkAt W k t1 t2 m) (b c : Blk) (l : List Blk) : (W.set t2 b ++ l).set k c = (W.set t2 b).set k c ++ l := hsetL (by rw [List.length_set]; exact h.lt.1)
@[go_sem] theorem hgetS2 (W l : List Blk) (i j n : Nat) (b c : Blk) : ((W.set i b).set j c ++ l)[W.length + n]? = l[n]? := by
  rw [show W.length = ((W.set i b).set j c).length by simp, hget]
@[go_sem] theorem hgetS20 (W l : List Blk) (i j : Nat) (b c : Blk) : ((W.set i b).set j c ++ l)[W.length]? = l[0]? := by
  rw [show W.length = ((W.set i b).set j c).length by simp, hget0]
@[go_sem] theorem hsetS2 (W l : List Blk) (i j n : Nat) (b c e : Blk) : ((W.set i b).set j c ++ l).set (W.length + n) e = (W.set i b).set j c ++ l.set n e := by
  rw [show W.length = ((W.set i b).set j c).length by simp, hset]
@[go_sem] theorem hsetS20 (W l : List Blk) (i j : Nat) (b c e : Blk) : ((W.set i b).set j c ++ l).set W.length e = (W.set i b).set j c ++ l.set 0 e := by
  rw [show W.length = ((W.set i b).set j c).length by simp, hset0]
theorem MkAt.fold1 {W : List Blk} {k t1 t2 : Nat} {m m' : Mk} (h : MkAt W k t1 t2 m) {n : Nat} (h1 : m'.a.macs.length = n) (h2 : m'.a.boxes.length = m.a.boxes.length) : (W.set t1 (.tok 65 n)).set k (.obj (eMk m' t1 t2)) = MkPut W k t1 t2 m' := by
  have d3 := h.d3
  rw [MkPut, h1, h2]
  congr 1
  apply List.ext_getElem?
  intro j
  simp only [List.getElem?_set, List.length_set]
  by_cases q : t2 = j
  · subst q; simp only [d3, if_false, if_true, if_pos h.lt.2.2, h.k2]
  · simp [q]
theorem MkAt.fold2 {W : List Blk} {k t1 t2 : Nat} {m m' : Mk} (h : MkAt W k t1 t2 m) {n : Nat} (h1 : m'.a.boxes.length = n) (h2 : m'.a.macs.length = m.a.macs.length) : (W.set t2 (.tok 35 n)).set k (.obj (eMk m' t1 t2)) = MkPut W k t1 t2 m' := by
  have d3 := h.d3
  rw [MkPut, h1, h2]
  congr 2
  apply List.ext_getElem?
  intro j
  simp only [List.getElem?_set, List.length_set]
  by_cases q : t1 = j
  · subst q; simp only [if_true, if_pos h.lt.2.1, if_neg (Ne.symm d3), h.k1]
  · simp [q]

theorem MkAt.addMac {W : List Blk} {k t1 t2 : Nat} {m : Mk} (h : MkAt W k t1 t2 m) (key msg t : By) : (W.set t1 (.tok 65 (m.a.macs.length + 1))).set k (.obj (.node [36, 1] [.node [1, 32, 1, 1, 1] [.v (.bool m.a.free), .arr 1 (m.a.seed.map u8), .v (.int .i64 m.a.fresh), .sla 65 (m.a.macs.map eMac ++ [.node [32, 1, 32] [.arr 1 (key.map u8), .sl 1 (msg.map u8) false, .arr 1 (t.map u8)]]) t1, .sla 35 (m.a.boxes.map eSealed) t2], .v (.int .i64 m.e)])) = MkPut W k t1 t2 ⟨{ m.a with macs := m.a.macs ++ [⟨key, msg, t⟩] }, m.e⟩ := by
  refine Eq.trans ?_ (h.fold1 (m' := ⟨{ m.a with macs := m.a.macs ++ [⟨key, msg, t⟩] }, m.e⟩) (n := m.a.macs.length + 1) (by simp) rfl)
  simp [eMk, eAlgT, eMac]
theorem ltL_macs (n : Nat) (l : List Mac) (key msg t : By) : AV.ltL n (l.map eMac ++ [.node [32, 1, 32] [.arr 1 (key.map u8), .sl 1 (msg.map u8) false, .arr 1 (t.map u8)]]) := by
  have := ltL_map eMac_lt n (l ++ [⟨key, msg, t⟩])
  simpa [eMac] using this

theorem c_CloneW (a : List UInt8) (ha : a.length ≤ 140737488355328) (H : List Blk) : ACalls E 98 [.sl 1 (a.map u8) false] H (Gives H (.sl 1 (a.map u8) false)) :=
  Gives.weak (c_Clone a ha H) .sla (lt_bytes _ _)
theorem c_Clone1W (a : List UInt8) (ha : a.length ≤ 140737488355328) (H : List Blk) : ACalls E 111 [.sl 1 (a.map u8) false] H (Gives H (.sl 1 (a.map u8) false)) :=
  Gives.weak (c_Clone1 a ha H) .sla (lt_bytes _ _)

theorem c_Fail' {W : List Blk} {k t1 t2 : Nat} {m : Mk} (h : MkAt W k t1 t2 m) (l : List Blk) (e : Int) : ACalls E 72 [.ptr k [] 0, .v (.int .i64 e)] (W ++ l) (Gives (MkPut W k t1 t2 (m.fail e) ++ l) (.tup [])) := by
  have := c_Fail (h.app l) e
  rwa [MkPut.app h] at this

theorem c_Mac (hm : By → By → By) {W : List Blk} {k t1 t2 : Nat} {m : Mk} (h : MkAt W k t1 t2 m) (ok : m.a.Ok) (key msg : List UInt8) (hk : key.length = 32) (hmL : ∀ key msg, (hm key msg).length = 32)
    (hH : m.a.free = false → msg.length ≤ 4096 → ∀ H, ACalls E 108 [.sl 1 (key.map u8) true, .sl 1 (msg.map u8) false] H (Gives H (.arr 1 ((hm key msg).map u8)))) :
    ACalls E 75 [.ptr k [] 0, .arr 1 (key.map u8), .sl 1 (msg.map u8) false] W (Gives (MkPut W k t1 t2 (m.mac hm key msg).1) (.arr 1 ((m.mac hm key msg).2.map u8))) := by
  have hl := h.lt
  refine ACalls.tidy (by rw [MkPut.len]; exact Nat.le_refl _) (ACalls.enter Tryd.call75 Tryd.func75 rfl ?_)
  refine AW.sound (stopAt 14 pd75) mixed Tryd.func75 (by rw [Tryd.results75]) 1000 ?_
  simp -implicitDefEqProofs only [↓reduceIte, go_sem, Tryd.ntmps75]
  refine brk.dec (fun q => ?_) (fun q => ?_)
  · simp -implicitDefEqProofs only [↓reduceIte, go_sem, q]
    refine ACalls.use (c_Fail' h _ 2) ?_
    have e0 : (m.fail 2).e ≠ 0 := by simp only [Mk.fail]; split <;> omega
    have e1 : ((m.fail 2).e != 0) = true := by simpa using e0
    have e2 : m.mac hm key msg = (m.fail 2, zeros 32) := by rw [Mk.mac, if_pos (by omega)]
    simp -implicitDefEqProofs only [↓reduceIte, go_sem, h.got, e1, e2]
    exact .ext (.refl _) (lt_bytes _ _)
  · simp -implicitDefEqProofs only [↓reduceIte, go_sem, h.got0]
    refine brk.bne (fun q1 => ?_) (fun q1 => ?_)
    · have e2 : m.mac hm key msg = (m, zeros 32) := by rw [Mk.mac, if_neg (by omega), if_pos q1]
      simp -implicitDefEqProofs only [↓reduceIte, go_sem, h.got0, q1, e2, h.same]
      exact .ext (.refl _) (lt_bytes _ _)
    · simp -implicitDefEqProofs only [↓reduceIte, go_sem, h.got0, q1]
      try refine ⟨Lock.ok (by decide +kernel), ?_⟩

      simp -implicitDefEqProofs only [↓reduceIte, go_sem, h.got0, hk]
      refine ACalls.useW (by repeat (first | exact WkL.nil | refine WkL.cons (Wk.refl _) ?_ | refine WkL.cons Wk.sla ?_ | refine WkL.cons Wk.sl ?_ | refine WkL.cons Wk.empty ?_ | refine WkL.cons Wk.nil ?_)) (c_find _ (fun x hx => (ok.macs x hx).key) ok.lm _ _ hk _) ?_
      simp -implicitDefEqProofs only [↓reduceIte, go_sem, h.got0, hk]
      generalize hix : idxL (fun x => x.key == key && x.msg == msg) m.a.macs = ix
      have hm0 : ¬ 4096 < msg.length := by omega
      refine brk.dec (fun q2 => ?_) (fun q2 => ?_)
      · obtain ⟨i, hf, rfl⟩ : ∃ i : Nat, m.a.macs.findIdx? (fun x => x.key == key && x.msg == msg) = some i ∧ ix = i := by
          unfold idxL at hix
          split at hix
          · exact ⟨_, by assumption, hix.symm⟩
          · omega
        have hi : i < m.a.macs.length := (List.findIdx?_eq_some_iff_getElem.1 hf).1
        have e2 : m.mac hm key msg = (m, (m.a.macs[i]).tag) := by
          rw [Mk.mac, if_neg hm0, if_neg (by omega), hf]; simp [hi, List.getD_eq_getElem?_getD]
        simp -implicitDefEqProofs only [↓reduceIte, go_sem, hi, getD_mac hi, e2, h.same, h.got0, hk]
        have ht := (ok.macs _ (List.getElem_mem hi)).tag
        exact ⟨ht.symm, ht.symm, ht.symm, .ext (.refl _) (lt_bytes _ _)⟩
      · have hf : m.a.macs.findIdx? (fun x => x.key == key && x.msg == msg) = none := by
          unfold idxL at hix
          split at hix
          · omega
          · assumption
        simp -implicitDefEqProofs only [↓reduceIte, go_sem, h.got0, hk]
        have lm := ok.lm
        rw [wrap64 (by omega) (by omega)]
        refine brk.dec (fun q3 => ?_) (fun q3 => ?_)
        · have e0 : (m.fail 2).e ≠ 0 := by simp only [Mk.fail]; split <;> omega
          have e2 : m.mac hm key msg = (m.fail 2, zeros 32) := by rw [Mk.mac, if_neg hm0, if_neg (by omega), hf]; simp only; rw [if_pos (by omega)]
          simp -implicitDefEqProofs only [↓reduceIte, go_sem, h.got0, hk]
          refine ACalls.useW (by repeat (first | exact WkL.nil | refine WkL.cons (Wk.refl _) ?_ | refine WkL.cons Wk.sla ?_ | refine WkL.cons Wk.sl ?_ | refine WkL.cons Wk.empty ?_ | refine WkL.cons Wk.nil ?_)) (c_Fail' h _ 2) ?_
          simp -implicitDefEqProofs only [↓reduceIte, go_sem, e2, h.got0, hk]
          exact .ext (.refl _) (lt_bytes _ _)
        · simp -implicitDefEqProofs only [↓reduceIte, go_sem, h.got0, hk]
          have hn : (m.a.macs.length : Int) + 1 = ((m.a.macs.length + 1 : Nat) : Int) := by omega
          refine ACalls.useW (by repeat (first | exact WkL.nil | refine WkL.cons (Wk.refl _) ?_ | refine WkL.cons Wk.sla ?_ | refine WkL.cons Wk.sl ?_ | refine WkL.cons Wk.empty ?_ | refine WkL.cons Wk.nil ?_)) (c_Symbol 109 _ _) ?_
          simp -implicitDefEqProofs only [↓reduceIte, go_sem, symL_length, h.got0, hk]
          refine brk.not (brk.mk (fun q4 => ?_) (fun q4 => ?_))
          · simp -implicitDefEqProofs only [↓reduceIte, go_sem, q4, symL_length, h.got0, hk]
            try refine ⟨Lock.ok (by decide +kernel), ?_⟩

            refine ACalls.useW (by repeat (first | exact WkL.nil | refine WkL.cons (Wk.refl _) ?_ | refine WkL.cons Wk.sla ?_ | refine WkL.cons Wk.sl ?_ | refine WkL.cons Wk.empty ?_ | refine WkL.cons Wk.nil ?_)) (c_CloneW msg (by omega) _) ?_
            simp -implicitDefEqProofs only [↓reduceIte, go_sem, h.got0, hk, h.tok1, h.put1, h.got1, h.put1k, h.d1, h.d2, symL_length]
            have e2 : m.mac hm key msg = (⟨{ m.a with macs := m.a.macs ++ [⟨key, msg, symL 109 (m.a.macs.length + 1)⟩] }, m.e⟩, symL 109 (m.a.macs.length + 1)) := by
              rw [Mk.mac, if_neg hm0, if_neg (by omega), hf]; simp only; rw [if_neg (by omega), if_pos q4]
            rw [e2, h.addMac]
            exact ⟨by omega, ltL_macs _ _ _ _ _, .ext (.refl _) (lt_bytes _ _)⟩
          · simp -implicitDefEqProofs only [↓reduceIte, go_sem, q4, h.got0, hk, h.tok1, h.put1, h.got1, h.put1k, h.d1, h.d2, symL_length]
            refine Lock.mk ?_
            refine AM.freeze (i := W.length) (a := .arr 1 (key.map u8)) (by simp only [go_sem]) ?_
            have htk : key.take 32 = key := List.take_of_length_le (by omega)
            refine AW.sound pd75 mixed Tryd.func75 (by rw [Tryd.results75]) 1000 ?_
            simp -implicitDefEqProofs only [↓reduceIte, go_sem, htk, h.got0, hk, h.tok1, h.put1, h.got1, h.put1k, h.d1, h.d2, symL_length]
            refine ACalls.useW (by exact WkL.refl _) (hH q4 (by omega) _) ?_
            have hkl := hmL key msg

            simp -implicitDefEqProofs only [↓reduceIte, go_sem, h.got0, hk, h.tok1, h.put1, h.got1, h.put1k, h.d1, h.d2, hkl, symL_length]
            try refine ⟨Lock.ok (by decide +kernel), ?_⟩
            refine ACalls.useW (by repeat (first | exact WkL.nil | refine WkL.cons (Wk.refl _) ?_ | refine WkL.cons Wk.sla ?_ | refine WkL.cons Wk.sl ?_ | refine WkL.cons Wk.empty ?_ | refine WkL.cons Wk.nil ?_)) (c_CloneW msg (by omega) _) ?_
            simp -implicitDefEqProofs only [↓reduceIte, go_sem, h.got0, hk, h.tok1, h.put1, h.got1, h.put1k, h.d1, h.d2, hkl, symL_length]
            have e2 : m.mac hm key msg = (⟨{ m.a with macs := m.a.macs ++ [⟨key, msg, hm key msg⟩] }, m.e⟩, hm key msg) := by
              rw [Mk.mac, if_neg hm0, if_neg (by omega), hf]; simp only; rw [if_neg (by omega), if_neg (by simp [q4])]
            rw [e2, h.addMac]
            exact ⟨by omega, ltL_macs _ _ _ _ _, .ext (.refl _) (lt_bytes _ _)⟩
/-- what hm has to be: the tags that hmac.Of makes, where tags are computed -/
structure HmC (hm : By → By → By) (free : Bool) : Prop where
  len : ∀ k m, (hm k m).length = 32
  call : free = false → ∀ key msg : By, key.length = 32 → msg.length ≤ 4096 → ∀ H, ACalls E 108 [.sl 1 (key.map u8) true, .sl 1 (msg.map u8) false] H (Gives H (.arr 1 ((hm key msg).map u8)))
theorem Mk.fail_a (m : Mk) (e : Int) : (m.fail e).a = m.a := rfl
/-- what a tag leaves -/
theorem Mk.mac_ok {hm : By → By → By} (hl : ∀ k m, (hm k m).length = 32) (m : Mk) (ok : m.a.Ok) (key msg : By) (hk : key.length = 32) :
    (m.mac hm key msg).1.a.Ok ∧ (m.mac hm key msg).2.length = 32 ∧ (m.mac hm key msg).1.a.free = m.a.free := by
  unfold Mk.mac
  split
  · exact ⟨ok, zeros_length 32, rfl⟩
  split
  · exact ⟨ok, zeros_length 32, rfl⟩
  split
  · rename_i i hf
    obtain ⟨hi, hp, -⟩ := List.findIdx?_eq_some_iff_getElem.1 hf
    refine ⟨ok, ?_, rfl⟩
    have : (m.a.macs.map (·.tag)).getD i [] = m.a.macs[i].tag := by simp [List.getD_eq_getElem?_getD, hi]
    simp only [this]
    exact (ok.macs _ (List.getElem_mem hi)).tag
  · split
    · exact ⟨ok, zeros_length 32, rfl⟩
    · have ht : (if m.a.free then symL 109 (m.a.macs.length + 1) else hm key msg).length = 32 := by
        split
        · exact symL_length ..
        · exact hl ..
      refine ⟨⟨ok.seed, ?_, ok.boxes, by simp; omega, ok.lb, ok.f0, ok.f1⟩, ht, rfl⟩
      intro x hx
      simp only [List.mem_append, List.mem_singleton] at hx
      rcases hx with hx | rfl
      · exact ok.macs x hx
      · exact ⟨hk, ht, by simp only; omega⟩
theorem c_MacH {hm : By → By → By} {W : List Blk} {k t1 t2 : Nat} {m : Mk} (h : MkAt W k t1 t2 m) (ok : m.a.Ok) (hc : HmC hm m.a.free) (key msg : List UInt8) (hk : key.length = 32) :
    ACalls E 75 [.ptr k [] 0, .arr 1 (key.map u8), .sl 1 (msg.map u8) false] W (Gives (MkPut W k t1 t2 (m.mac hm key msg).1) (.arr 1 ((m.mac hm key msg).2.map u8))) :=
  c_Mac hm h ok key msg hk hc.len (fun hf hl => hc.call hf key msg hk hl)
theorem c_MacU {hm : By → By → By} {W : List Blk} {k t1 t2 : Nat} {m0 m : Mk} (h : MkAt W k t1 t2 m0) (ok : m.a.Ok) (hc : HmC hm m.a.free) (key msg : List UInt8) (hk : key.length = 32) (l : List Blk) :
    ACalls E 75 [.ptr k [] 0, .arr 1 (key.map u8), .sl 1 (msg.map u8) false] (MkPut W k t1 t2 m ++ l) (Gives (MkPut W k t1 t2 (m.mac hm key msg).1 ++ l) (.arr 1 ((m.mac hm key msg).2.map u8))) := by
  have := c_MacH ((h.put m).app l) ok hc key msg hk
  rwa [MkPut.app (h.put m), MkPut.put h] at this
theorem c_MacU0 {hm : By → By → By} {W : List Blk} {k t1 t2 : Nat} {m : Mk} (h : MkAt W k t1 t2 m) (ok : m.a.Ok) (hc : HmC hm m.a.free) (key msg : List UInt8) (hk : key.length = 32) (l : List Blk) :
    ACalls E 75 [.ptr k [] 0, .arr 1 (key.map u8), .sl 1 (msg.map u8) false] (W ++ l) (Gives (MkPut W k t1 t2 (m.mac hm key msg).1 ++ l) (.arr 1 ((m.mac hm key msg).2.map u8))) := by
  have := c_MacH (h.app l) ok hc key msg hk
  rwa [MkPut.app h] at this
theorem c_FailU {W : List Blk} {k t1 t2 : Nat} {m0 : Mk} (h : MkAt W k t1 t2 m0) (m : Mk) (l : List Blk) (e : Int) : ACalls E 72 [.ptr k [] 0, .v (.int .i64 e)] (MkPut W k t1 t2 m ++ l) (Gives (MkPut W k t1 t2 (m.fail e) ++ l) (.tup [])) := by
  have := c_Fail' (h.put m) l e
  rwa [MkPut.put h] at this
/-- the algebra of a maker, or none -/
def Mk.done (m : Mk) : Alg := if m.e = 0 then m.a else Alg.zero
theorem c_DoneU {W : List Blk} {k t1 t2 : Nat} {m0 : Mk} (h : MkAt W k t1 t2 m0) (m : Mk) (l : List Blk) : ACalls E 44 [.ptr k [] 0] (MkPut W k t1 t2 m ++ l) (Gives (MkPut W k t1 t2 m ++ l) (.tup [eAlg m.done, .v (.int .i64 m.e)])) := by
  have h2 := c_Done ((h.put m).app l)
  refine ACalls.tidy (Nat.le_refl _) (h2.mono ?_)
  rintro H r ⟨rfl, rfl⟩
  refine .here (.tup (.cons ?_ (.cons (.refl _) .nil))) (by simp [AV.lt, AV.ltL, eAlg, lt_bytes, ltL_mac, ltL_sealed])
  unfold Mk.done
  split
  · exact .refl _
  · simp only [z30, eAlg, Alg.zero]
    exact (by repeat' (first | exact Wk.refl _ | exact Wk.sla | exact Wk.sl | exact Wk.empty | exact Wk.nil | exact WkL.nil | refine Wk.node ?_ | refine Wk.tup ?_ | refine WkL.cons ?_ ?_))
end Go.Mc
