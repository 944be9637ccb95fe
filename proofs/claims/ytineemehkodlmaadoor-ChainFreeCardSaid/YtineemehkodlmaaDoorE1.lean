/- Contracts of functions of the program. -/
import Derived.Test.YtineemehkodlmaaDoorD3
set_option linter.all false
set_option maxRecDepth 100000
namespace Go.Mc
open Go.Proofs

def i64 (n : Int) : AV := .v (.int .i64 n)
attribute [go_sem] i64
@[go_sem] theorem ltL_i64 (n : Nat) (l : List Int) : AV.ltL n (l.map i64) = True := eq_true (ltL_map (fun x n => by simp [i64, AV.lt]) n l)
theorem lt_i64 (n : Nat) (l : List Int) : AV.ltL n (l.map fun x => AV.v (.int .i64 x)) := ltL_map (fun x n => by simp [AV.lt]) n l
@[go_sem] theorem getD_i64 {l : List Int} {n : Nat} (h : n < l.length) : (l.map fun x => AV.v (.int .i64 x)).getD n .undef = .v (.int .i64 (l.getD n 0)) := getD_map_lt 0 h
structure Dk where
  l : List Int
  at' : Nat
  h1 : at' ≤ l.length
  h2 : l.length ≤ 9223372036854775807
def eDk (d : Dk) : AV := .node [1, 1] [.sl 1 (d.l.map fun x => AV.v (.int .i64 x)) false, .v (.int .i64 d.at')]
attribute [go_sem] eDk
def DkAt (W : List Blk) (k : Nat) (d : Dk) : Prop := W[k]? = some (.obj (eDk d))
def DW (W : List Blk) (k : Nat) (d : Dk) : List Blk := W.set k (.obj (eDk d))
@[go_sem] theorem DW.len (W : List Blk) (k : Nat) (d : Dk) : (DW W k d).length = W.length := by simp [DW]
theorem DkAt.lt {W : List Blk} {k : Nat} {d : Dk} (h : DkAt W k d) : k < W.length := (List.getElem?_eq_some_iff.1 h).1
theorem DkAt.got0 {W : List Blk} {k : Nat} {d : Dk} (h : DkAt W k d) (l : List Blk) : (W ++ l)[k]? = some (.obj (eDk d)) := by rw [hgetL h.lt]; exact h
theorem DkAt.got {W : List Blk} {k : Nat} {d : Dk} (h : DkAt W k d) (d' : Dk) (l : List Blk) : (DW W k d' ++ l)[k]? = some (.obj (eDk d')) := by
  rw [hgetL (by rw [DW.len]; exact h.lt), DW, List.getElem?_set_self h.lt]
theorem DkAt.gotn {W : List Blk} {k : Nat} {d : Dk} (h : DkAt W k d) (d' : Dk) : (DW W k d')[k]? = some (.obj (eDk d')) := by
  rw [DW, List.getElem?_set_self h.lt]
theorem DkAt.put0 {W : List Blk} {k : Nat} {d : Dk} (h : DkAt W k d) (b : Blk) (l : List Blk) : (W ++ l).set k b = W.set k b ++ l := hsetL h.lt
theorem DkAt.get {W : List Blk} {k : Nat} {d : Dk} (h : DkAt W k d) : W[k]? = some (.obj (eDk d)) := h
theorem DkAt.same {W : List Blk} {k : Nat} {d : Dk} (h : DkAt W k d) : DW W k d = W := by
  apply List.ext_getElem?
  intro j
  rw [DW, List.getElem?_set]
  split
  · rename_i q; subst q; rw [if_pos h.lt]; exact h.symm
  · rfl
@[go_sem] theorem hgetD (W : List Blk) (k : Nat) (d : Dk) (l : List Blk) (j : Nat) : (DW W k d ++ l)[W.length + j]? = l[j]? := by rw [← DW.len W k d, hget]
@[go_sem] theorem hgetD0 (W : List Blk) (k : Nat) (d : Dk) (l : List Blk) : (DW W k d ++ l)[W.length]? = l[0]? := by rw [← DW.len W k d, hget0]
@[go_sem] theorem hsetD (W : List Blk) (k : Nat) (d : Dk) (l : List Blk) (j : Nat) (b : Blk) : (DW W k d ++ l).set (W.length + j) b = DW W k d ++ l.set j b := by rw [← DW.len W k d, hset]
@[go_sem] theorem hsetD0 (W : List Blk) (k : Nat) (d : Dk) (l : List Blk) (b : Blk) : (DW W k d ++ l).set W.length b = DW W k d ++ l.set 0 b := by rw [← DW.len W k d, hset0]
theorem DkAt.at {W : List Blk} {k : Nat} {d : Dk} (h : DkAt W k d) (d' : Dk) (l : List Blk) : DkAt (DW W k d' ++ l) k d' := h.got d' l
theorem DkAt.at0 {W : List Blk} {k : Nat} {d : Dk} (h : DkAt W k d) (l : List Blk) : DkAt (W ++ l) k d := h.got0 l
theorem DkAt.put {W : List Blk} {k : Nat} {d : Dk} (h : DkAt W k d) (d1 d2 : Dk) (l : List Blk) : DW (DW W k d1 ++ l) k d2 = DW W k d2 ++ l := by
  rw [DW, hsetL (by rw [DW.len]; exact h.lt)]; simp [DW]
theorem DkAt.putn {W : List Blk} {k : Nat} {d : Dk} (h : DkAt W k d) (d2 : Dk) (l : List Blk) : DW (W ++ l) k d2 = DW W k d2 ++ l := by
  rw [DW, hsetL h.lt]; rfl
/-- a function of a deck: what it says of the result -/
def DkC (f : FuncId) (args : Nat → List AV) {α : Type} (p : α → Prop) (g : α → Dk) (r : α → AV) : Prop :=
  ∀ (W : List Blk) (k : Nat) (d : Dk), DkAt W k d → ACalls E f (args k) W (Some1 p (fun x => DW W k (g x)) r)
theorem DkC.use {f : FuncId} {args : Nat → List AV} {α : Type} {p : α → Prop} {g : α → Dk} {r : α → AV} (hc : DkC f args p g r) {W : List Blk} {k : Nat} {d : Dk} (h : DkAt W k d) (d1 : Dk) (l : List Blk) :
    ACalls E f (args k) (DW W k d1 ++ l) (Some1 p (fun x => DW W k (g x) ++ l) r) := by
  have := hc _ k d1 (h.at d1 l)
  simpa only [h.put] using this
theorem DkC.use0 {f : FuncId} {args : Nat → List AV} {α : Type} {p : α → Prop} {g : α → Dk} {r : α → AV} (hc : DkC f args p g r) {W : List Blk} {k : Nat} {d : Dk} (h : DkAt W k d) (l : List Blk) :
    ACalls E f (args k) (W ++ l) (Some1 p (fun x => DW W k (g x) ++ l) r) := by
  have := hc _ k d (h.at0 l)
  simpa only [h.putn] using this
theorem DkC.use1 {f : FuncId} {args : Nat → List AV} {α : Type} {p : α → Prop} {g : α → Dk} {r : α → AV} (hc : DkC f args p g r) {W : List Blk} {k : Nat} {d : Dk} (h : DkAt W k d) (d1 : Dk) :
    ACalls E f (args k) (DW W k d1) (Some1 p (fun x => DW W k (g x)) r) := by
  have := hc.use h d1 []
  simpa only [List.append_nil] using this
/-- the call's result, said with less, and one of those that may come back -/
def SomeW {α : Type} (p : α → Prop) (Hf : α → List Blk) (rf : α → AV) (H' : List Blk) (e : Res) : Prop := ∃ x, p x ∧ GivesW (Hf x) (rf x) H' e
theorem SomeW.mk {α : Type} {p : α → Prop} {Hf : α → List Blk} {rf : α → AV} {H' : List Blk} {e : Res} (x : α) (hp : p x) (h : GivesW (Hf x) (rf x) H' e) : SomeW p Hf rf H' e := ⟨x, hp, h⟩
theorem ACalls.some {E : Prg} {f : FuncId} {avs : List AV} {H : List Blk} {α : Type} {p : α → Prop} {Hf : α → List Blk} {rf : α → AV} (hm : ∀ x, H.length ≤ (Hf x).length)
    (h : ACalls E f avs H (SomeW p Hf rf)) : ACalls E f avs H (Some1 p Hf rf) := by
  refine ⟨h.able, fun G w vs hs hv => (h.run G w vs hs hv).mono fun e w' q => ?_⟩
  obtain ⟨G', H1, r1, h1, h2, h3, h4, x, hp, h5⟩ := q
  obtain ⟨G2, H2, r2, q1, q2, q3, q4, q5, q6⟩ := Post.tidy (hm x) (⟨G', H1, r1, h1, h2, h3, h4, h5⟩ : Post E H.length G w (GivesW (Hf x) (rf x)) e w')
  exact ⟨G2, H2, r2, q1, q2, q3, q4, x, hp, q5, q6⟩
theorem DkC.mk {f : FuncId} {args : Nat → List AV} {α : Type} {p : α → Prop} {g : α → Dk} {r : α → AV} (h : ∀ (W : List Blk) (k : Nat) (d : Dk), DkAt W k d → ACalls E f (args k) W (SomeW p (fun x => DW W k (g x)) r)) : DkC f args p g r :=
  fun W k d hd => ACalls.some (fun x => by rw [DW.len]; exact Nat.le_refl _) (h W k d hd)
abbrev IntDk := Int × Dk

theorem c_Next {n : Int} (h0 : 0 < n) (h1 : n < 4611686018427387904) : DkC 29 (fun k => [.ptr k [] 0, .v (.int .i64 n)]) (fun x : IntDk => 0 ≤ x.1 ∧ x.1 < n) (·.2) (fun x => .v (.int .i64 x.1)) := by
  refine DkC.mk fun W k d h => ?_
  have b1 := d.h1
  have b2 := d.h2

  refine ACalls.enter Tryd.call29 Tryd.func29 rfl ?_
  refine AW.sound pd29 mixed Tryd.func29 (by rw [Tryd.results29]) 1000 ?_
  simp -implicitDefEqProofs only [↓reduceIte, go_sem, Tryd.ntmps29, h.got0, h.put0, h.get, List.getElem?_set_self h.lt]
  try refine ⟨Lock.ok (by decide +kernel), ?_⟩
  refine brk.dec (fun q => ?_) (fun q => ?_)
  · simp -implicitDefEqProofs only [↓reduceIte, go_sem, h.got0, h.put0, h.get, List.getElem?_set_self h.lt]
    exact ⟨(0, d), ⟨by omega, h0⟩, by simp only [h.same]; exact .here (.refl _) trivial⟩
  · have q1 : d.at' < d.l.length := by omega
    have w1 : IntKind.wrap .i64 (↑d.at' + 1) = ((d.at' + 1 : Nat) : Int) := by rw [wrap64 (by omega) (by omega)]; omega
    have w2 : IntKind.wrap .i64 (((d.at' + 1 : Nat) : Int) - 1) = (d.at' : Int) := by rw [wrap64 (by omega) (by omega)]; omega
    simp -implicitDefEqProofs only [↓reduceIte, go_sem, w1, w2, q1, h.got0, h.put0, h.get, List.getElem?_set_self h.lt]
    refine ⟨lt_i64 _ _, Lock.ok (by decide +kernel), ?_⟩
    refine ACalls.useW (by repeat (first | exact WkL.nil | refine WkL.cons (Wk.refl _) ?_ | refine WkL.cons Wk.sla ?_ | refine WkL.cons Wk.sl ?_ | refine WkL.cons Wk.empty ?_ | refine WkL.cons Wk.nil ?_ | refine WkL.cons (Wk.node (by repeat' (first | exact WkL.nil | refine WkL.cons ?_ ?_ | exact Wk.refl _ | exact Wk.sla | exact Wk.sl | exact Wk.empty | exact Wk.nil | refine Wk.node ?_))) ?_)) (c_Within h0 h1 _) ?_
    simp -implicitDefEqProofs only [↓reduceIte, go_sem, h.got0, h.put0, h.get, List.getElem?_set_self h.lt]
    have e := Int.emod_nonneg (d.l.getD d.at' 0) (show n ≠ 0 by omega)
    have e2 := Int.emod_lt_of_pos (d.l.getD d.at' 0) h0
    exact ⟨(_, ⟨d.l, d.at' + 1, q1, d.h2⟩), ⟨e, e2⟩, .here (.refl _) trivial⟩

theorem c_Range {a b : Int} (h0 : a ≤ b) (ha : -4611686018427387904 ≤ a) (h1 : b - a < 1152921504606846976) (hb : b < 4611686018427387904) : DkC 52 (fun k => [.ptr k [] 0, .v (.int .i64 a), .v (.int .i64 b)]) (fun x : IntDk => a ≤ x.1 ∧ x.1 ≤ b) (·.2) (fun x => .v (.int .i64 x.1)) := by
  refine DkC.mk fun W k d h => ?_
  have w1 : IntKind.wrap .i64 (IntKind.wrap .i64 (b - a) + 1) = b - a + 1 := by rw [wrap64 (n := b - a) (by omega) (by omega), wrap64 (by omega) (by omega)]

  refine ACalls.enter Tryd.call52 Tryd.func52 rfl ?_
  refine AW.sound nopl mixed Tryd.func52 (by rw [Tryd.results52]) 1000 ?_
  simp -implicitDefEqProofs only [↓reduceIte, go_sem, Tryd.ntmps52, h.got0, h.put0, h.get, w1]
  refine ACalls.useX (by repeat (first | exact WkL.nil | refine WkL.cons (Wk.refl _) ?_ | refine WkL.cons Wk.sla ?_ | refine WkL.cons Wk.sl ?_ | refine WkL.cons Wk.empty ?_ | refine WkL.cons Wk.nil ?_ | refine WkL.cons (Wk.node (by repeat' (first | exact WkL.nil | refine WkL.cons ?_ ?_ | exact Wk.refl _ | exact Wk.sla | exact Wk.sl | exact Wk.empty | exact Wk.nil | refine Wk.node ?_))) ?_)) ((c_Next (by omega) (by omega)) _ _ _ h) ?_
  rintro ⟨x, d⟩ ⟨h2, h3⟩
  try dsimp only at h2 h3
  simp -implicitDefEqProofs only [↓reduceIte, go_sem, h.got0, h.put0, h.get, w1]
  rw [wrap64 (by omega) (by omega)]
  exact ⟨(a + x, d), by simp only; omega, .here (.refl _) trivial⟩

theorem c_Upto {n : Int} (h0 : 0 ≤ n) (h1 : n < 1152921504606846976) : DkC 15 (fun k => [.ptr k [] 0, .v (.int .i64 n)]) (fun x : IntDk => 0 ≤ x.1 ∧ x.1 ≤ n) (·.2) (fun x => .v (.int .i64 x.1)) := by
  refine DkC.mk fun W k d h => ?_
  have w1 : IntKind.wrap .i64 (n + 1) = n + 1 := by rw [wrap64 (by omega) (by omega)]

  refine ACalls.enter Tryd.call15 Tryd.func15 rfl ?_
  refine AW.sound nopl mixed Tryd.func15 (by rw [Tryd.results15]) 1000 ?_
  simp -implicitDefEqProofs only [↓reduceIte, go_sem, Tryd.ntmps15, h.got0, h.put0, h.get, w1]
  refine ACalls.useX (by repeat (first | exact WkL.nil | refine WkL.cons (Wk.refl _) ?_ | refine WkL.cons Wk.sla ?_ | refine WkL.cons Wk.sl ?_ | refine WkL.cons Wk.empty ?_ | refine WkL.cons Wk.nil ?_ | refine WkL.cons (Wk.node (by repeat' (first | exact WkL.nil | refine WkL.cons ?_ ?_ | exact Wk.refl _ | exact Wk.sla | exact Wk.sl | exact Wk.empty | exact Wk.nil | refine Wk.node ?_))) ?_)) ((c_Next (by omega) (by omega)) _ _ _ h) ?_
  rintro ⟨x, d⟩ ⟨h2, h3⟩
  try dsimp only at h2 h3
  simp -implicitDefEqProofs only [↓reduceIte, go_sem, h.got0, h.put0, h.get, w1]
  refine brk.beq (fun q => ?_) (fun q => ?_)
  · simp -implicitDefEqProofs only [↓reduceIte, go_sem, h.got0, h.put0, h.get, w1]
    try refine ⟨Lock.ok (by decide +kernel), ?_⟩
    refine ACalls.useX (by repeat (first | exact WkL.nil | refine WkL.cons (Wk.refl _) ?_ | refine WkL.cons Wk.sla ?_ | refine WkL.cons Wk.sl ?_ | refine WkL.cons Wk.empty ?_ | refine WkL.cons Wk.nil ?_ | refine WkL.cons (Wk.node (by repeat' (first | exact WkL.nil | refine WkL.cons ?_ ?_ | exact Wk.refl _ | exact Wk.sla | exact Wk.sl | exact Wk.empty | exact Wk.nil | refine Wk.node ?_))) ?_)) ((c_Next (by omega) (by omega)).use1 h _) ?_
    rintro ⟨y, d⟩ ⟨h4, h5⟩
    try dsimp only at h4 h5
    simp -implicitDefEqProofs only [↓reduceIte, go_sem, h.got0, h.put0, h.get, w1]
    exact ⟨(if n < y then n else y, d), by simp only; split <;> omega, .here (.refl _) trivial⟩
  simp -implicitDefEqProofs only [↓reduceIte, go_sem, h.got0, h.put0, h.get, w1]
  refine brk.beq (fun q1 => ?_) (fun q1 => ?_)
  · simp -implicitDefEqProofs only [↓reduceIte, go_sem, h.got0, h.put0, h.get, w1]
    try refine ⟨Lock.ok (by decide +kernel), ?_⟩
    refine ACalls.useX (by repeat (first | exact WkL.nil | refine WkL.cons (Wk.refl _) ?_ | refine WkL.cons Wk.sla ?_ | refine WkL.cons Wk.sl ?_ | refine WkL.cons Wk.empty ?_ | refine WkL.cons Wk.nil ?_ | refine WkL.cons (Wk.node (by repeat' (first | exact WkL.nil | refine WkL.cons ?_ ?_ | exact Wk.refl _ | exact Wk.sla | exact Wk.sl | exact Wk.empty | exact Wk.nil | refine Wk.node ?_))) ?_)) ((c_Next (by omega) (by omega)).use1 h _) ?_
    rintro ⟨y, d⟩ ⟨h4, h5⟩
    try dsimp only at h4 h5
    simp -implicitDefEqProofs only [↓reduceIte, go_sem, h.got0, h.put0, h.get, w1]
    exact ⟨(if n < y then n else y, d), by simp only; split <;> omega, .here (.refl _) trivial⟩
  simp -implicitDefEqProofs only [↓reduceIte, go_sem, h.got0, h.put0, h.get, w1]
  refine brk.beq (fun q2 => ?_) (fun q2 => ?_)
  · simp -implicitDefEqProofs only [↓reduceIte, go_sem, h.got0, h.put0, h.get, w1]
    try refine ⟨Lock.ok (by decide +kernel), ?_⟩
    refine ACalls.useX (by repeat (first | exact WkL.nil | refine WkL.cons (Wk.refl _) ?_ | refine WkL.cons Wk.sla ?_ | refine WkL.cons Wk.sl ?_ | refine WkL.cons Wk.empty ?_ | refine WkL.cons Wk.nil ?_ | refine WkL.cons (Wk.node (by repeat' (first | exact WkL.nil | refine WkL.cons ?_ ?_ | exact Wk.refl _ | exact Wk.sla | exact Wk.sl | exact Wk.empty | exact Wk.nil | refine Wk.node ?_))) ?_)) ((c_Next (by split <;> omega) (by split <;> omega)).use1 h _) ?_
    rintro ⟨y, d⟩ ⟨h4, h5⟩
    try dsimp only at h4 h5
    simp -implicitDefEqProofs only [↓reduceIte, go_sem, h.got0, h.put0, h.get, w1]
    have h6 : y ≤ n := by split at h5 <;> omega
    rw [wrap64 (by omega) (by omega)]
    exact ⟨(_, d), by simp only; omega, .here (.refl _) trivial⟩
  simp -implicitDefEqProofs only [↓reduceIte, go_sem, w1, h.got0, h.put0, h.get, w1]
  refine ACalls.useX (by repeat (first | exact WkL.nil | refine WkL.cons (Wk.refl _) ?_ | refine WkL.cons Wk.sla ?_ | refine WkL.cons Wk.sl ?_ | refine WkL.cons Wk.empty ?_ | refine WkL.cons Wk.nil ?_ | refine WkL.cons (Wk.node (by repeat' (first | exact WkL.nil | refine WkL.cons ?_ ?_ | exact Wk.refl _ | exact Wk.sla | exact Wk.sl | exact Wk.empty | exact Wk.nil | refine Wk.node ?_))) ?_)) ((c_Next (by omega) (by omega)).use1 h _) ?_
  rintro ⟨x, d⟩ ⟨h2, h3⟩
  try dsimp only at h2 h3
  simp -implicitDefEqProofs only [↓reduceIte, go_sem, h.got0, h.put0, h.get, w1]
  exact ⟨(x, d), by simp only; omega, .here (.refl _) trivial⟩

theorem c_Minute : DkC 113 (fun k => [.ptr k [] 0]) (fun x : IntDk => 0 ≤ x.1 ∧ x.1 ≤ 67108864) (·.2) (fun x => .v (.int .i64 x.1)) := by
  refine DkC.mk fun W k d h => ?_

  refine ACalls.enter Tryd.call113 Tryd.func113 rfl ?_
  refine AW.sound nopl mixed Tryd.func113 (by rw [Tryd.results113]) 1000 ?_
  simp -implicitDefEqProofs only [↓reduceIte, go_sem, Tryd.ntmps113, h.got0, h.put0, h.get]
  refine ACalls.useX (by repeat (first | exact WkL.nil | refine WkL.cons (Wk.refl _) ?_ | refine WkL.cons Wk.sla ?_ | refine WkL.cons Wk.sl ?_ | refine WkL.cons Wk.empty ?_ | refine WkL.cons Wk.nil ?_ | refine WkL.cons (Wk.node (by repeat' (first | exact WkL.nil | refine WkL.cons ?_ ?_ | exact Wk.refl _ | exact Wk.sla | exact Wk.sl | exact Wk.empty | exact Wk.nil | refine Wk.node ?_))) ?_)) ((c_Next (by omega) (by omega)) _ _ _ h) ?_
  rintro ⟨x, d⟩ ⟨h2, h3⟩
  try dsimp only at h2 h3
  simp -implicitDefEqProofs only [↓reduceIte, go_sem, h.got0, h.put0, h.get]
  refine brk.beq (fun q => ?_) (fun q => ?_)
  · simp -implicitDefEqProofs only [↓reduceIte, go_sem, h.got0, h.put0, h.get]
    refine ACalls.useX (by repeat (first | exact WkL.nil | refine WkL.cons (Wk.refl _) ?_ | refine WkL.cons Wk.sla ?_ | refine WkL.cons Wk.sl ?_ | refine WkL.cons Wk.empty ?_ | refine WkL.cons Wk.nil ?_ | refine WkL.cons (Wk.node (by repeat' (first | exact WkL.nil | refine WkL.cons ?_ ?_ | exact Wk.refl _ | exact Wk.sla | exact Wk.sl | exact Wk.empty | exact Wk.nil | refine Wk.node ?_))) ?_)) ((c_Next (by omega) (by omega)).use1 h _) ?_
    rintro ⟨x, d⟩ ⟨h2, h3⟩
    try dsimp only at h2 h3
    simp -implicitDefEqProofs only [↓reduceIte, go_sem, h.got0, h.put0, h.get]
    exact ⟨(x, d), by simp only; omega, .here (.refl _) trivial⟩
  simp -implicitDefEqProofs only [↓reduceIte, go_sem, h.got0, h.put0, h.get]
  refine brk.beq (fun q1 => ?_) (fun q1 => ?_)
  · simp -implicitDefEqProofs only [↓reduceIte, go_sem, h.got0, h.put0, h.get]
    try refine ⟨Lock.ok (by decide +kernel), ?_⟩
    refine ACalls.useX (by repeat (first | exact WkL.nil | refine WkL.cons (Wk.refl _) ?_ | refine WkL.cons Wk.sla ?_ | refine WkL.cons Wk.sl ?_ | refine WkL.cons Wk.empty ?_ | refine WkL.cons Wk.nil ?_ | refine WkL.cons (Wk.node (by repeat' (first | exact WkL.nil | refine WkL.cons ?_ ?_ | exact Wk.refl _ | exact Wk.sla | exact Wk.sl | exact Wk.empty | exact Wk.nil | refine Wk.node ?_))) ?_)) ((c_Next (by omega) (by omega)).use1 h _) ?_
    rintro ⟨x, d⟩ ⟨h2, h3⟩
    try dsimp only at h2 h3
    simp -implicitDefEqProofs only [↓reduceIte, go_sem, h.got0, h.put0, h.get]
    try refine ⟨Lock.ok (by decide +kernel), ?_⟩
    refine ACalls.useX (by repeat (first | exact WkL.nil | refine WkL.cons (Wk.refl _) ?_ | refine WkL.cons Wk.sla ?_ | refine WkL.cons Wk.sl ?_ | refine WkL.cons Wk.empty ?_ | refine WkL.cons Wk.nil ?_ | refine WkL.cons (Wk.node (by repeat' (first | exact WkL.nil | refine WkL.cons ?_ ?_ | exact Wk.refl _ | exact Wk.sla | exact Wk.sl | exact Wk.empty | exact Wk.nil | refine Wk.node ?_))) ?_)) ((c_Next (by omega) (by omega)).use1 h _) ?_
    rintro ⟨y, d⟩ ⟨h4, h5⟩
    try dsimp only at h4 h5
    simp -implicitDefEqProofs only [↓reduceIte, go_sem, h.got0, h.put0, h.get]
    rw [wrap64 (n := x * 1440) (by omega) (by omega), wrap64 (by omega) (by omega)]
    exact ⟨(if 67108864 < x * 1440 + y then 67108864 else x * 1440 + y, d), by simp only; split <;> omega, .here (.refl _) trivial⟩
  simp -implicitDefEqProofs only [↓reduceIte, go_sem, h.got0, h.put0, h.get]
  refine brk.beq (fun q2 => ?_) (fun q2 => ?_)
  · simp -implicitDefEqProofs only [↓reduceIte, go_sem, h.got0, h.put0, h.get]
    refine ACalls.useX (by repeat (first | exact WkL.nil | refine WkL.cons (Wk.refl _) ?_ | refine WkL.cons Wk.sla ?_ | refine WkL.cons Wk.sl ?_ | refine WkL.cons Wk.empty ?_ | refine WkL.cons Wk.nil ?_ | refine WkL.cons (Wk.node (by repeat' (first | exact WkL.nil | refine WkL.cons ?_ ?_ | exact Wk.refl _ | exact Wk.sla | exact Wk.sl | exact Wk.empty | exact Wk.nil | refine Wk.node ?_))) ?_)) ((c_Next (by omega) (by omega)).use1 h _) ?_
    rintro ⟨x, d⟩ ⟨h2, h3⟩
    try dsimp only at h2 h3
    simp -implicitDefEqProofs only [↓reduceIte, go_sem, h.got0, h.put0, h.get]
    rw [wrap64 (by omega) (by omega)]
    exact ⟨(67108864 - x, d), by simp only; omega, .here (.refl _) trivial⟩
  simp -implicitDefEqProofs only [↓reduceIte, go_sem, h.got0, h.put0, h.get]
  refine ACalls.useX (by repeat (first | exact WkL.nil | refine WkL.cons (Wk.refl _) ?_ | refine WkL.cons Wk.sla ?_ | refine WkL.cons Wk.sl ?_ | refine WkL.cons Wk.empty ?_ | refine WkL.cons Wk.nil ?_ | refine WkL.cons (Wk.node (by repeat' (first | exact WkL.nil | refine WkL.cons ?_ ?_ | exact Wk.refl _ | exact Wk.sla | exact Wk.sl | exact Wk.empty | exact Wk.nil | refine Wk.node ?_))) ?_)) ((c_Next (by omega) (by omega)).use1 h _) ?_
  rintro ⟨x, d⟩ ⟨h2, h3⟩
  try dsimp only at h2 h3
  simp -implicitDefEqProofs only [↓reduceIte, go_sem, h.got0, h.put0, h.get]
  exact ⟨(x, d), by simp only; omega, .here (.refl _) trivial⟩

theorem c_Name : DkC 114 (fun k => [.ptr k [] 0]) (fun x : By × Dk => isName x.1 = true) (·.2) (fun x => .v (.string (strS x.1))) := by
  refine DkC.mk fun W k d h => ?_

  refine ACalls.enter Tryd.call114 Tryd.func114 rfl ?_
  refine AW.sound nopl mixed Tryd.func114 (by rw [Tryd.results114]) 1000 ?_
  simp -implicitDefEqProofs only [↓reduceIte, go_sem, Tryd.ntmps114, h.got0, h.put0, h.get]
  refine ACalls.useX (by repeat (first | exact WkL.nil | refine WkL.cons (Wk.refl _) ?_ | refine WkL.cons Wk.sla ?_ | refine WkL.cons Wk.sl ?_ | refine WkL.cons Wk.empty ?_ | refine WkL.cons Wk.nil ?_ | refine WkL.cons (Wk.node (by repeat' (first | exact WkL.nil | refine WkL.cons ?_ ?_ | exact Wk.refl _ | exact Wk.sla | exact Wk.sl | exact Wk.empty | exact Wk.nil | refine Wk.node ?_))) ?_)) ((c_Next (by omega) (by omega)) _ _ _ h) ?_
  rintro ⟨x, d⟩ ⟨h2, h3⟩
  try dsimp only at h2 h3
  simp -implicitDefEqProofs only [↓reduceIte, go_sem, h.got0, h.put0, h.get]
  obtain rfl | rfl | rfl | rfl | rfl | rfl | rfl | rfl : x = 0 ∨ x = 1 ∨ x = 2 ∨ x = 3 ∨ x = 4 ∨ x = 5 ∨ x = 6 ∨ x = 7 := by omega
  all_goals
    simp -implicitDefEqProofs only [↓reduceIte, go_sem, h.got0, h.put0, h.get]
  · exact ⟨([97], d), by simp only; decide, .here (.refl _) trivial⟩
  · exact ⟨([98], d), by simp only; decide, .here (.refl _) trivial⟩
  · exact ⟨([97, 110, 110], d), by simp only; decide, .here (.refl _) trivial⟩
  · exact ⟨([98, 111, 98], d), by simp only; decide, .here (.refl _) trivial⟩
  · exact ⟨([99, 105, 100], d), by simp only; decide, .here (.refl _) trivial⟩
  · exact ⟨([122, 111, 101], d), by simp only; decide, .here (.refl _) trivial⟩
  · exact ⟨([97, 97], d), by simp only; decide, .here (.refl _) trivial⟩
  · exact ⟨([97, 98, 99, 100, 101, 102, 103, 104, 105, 106, 107, 108, 109, 110, 111, 112], d), by simp only; decide, .here (.refl _) trivial⟩

theorem u64_wrap (n : Int) : ∃ u : UInt64, IntKind.wrap .u64 n = ↑u.toNat := ⟨_, wrap64u n⟩
theorem iand_mask {n : Nat} (hn : n = 32 ∨ n = 7) (a : Int) : ∃ u : UInt64, iand .u64 a (IntKind.wrap .u64 (ishl .u64 1 n - 1)) = ↑u.toNat ∧ u.toNat < 2 ^ n := by
  have hw : IntKind.wrap .u64 (ishl .u64 1 n - 1) = ((2 ^ n - 1 : Nat) : Int) := by rcases hn with rfl | rfl <;> rfl
  rw [hw]
  refine ⟨UInt64.ofNat (BitVec.ofInt 64 a &&& BitVec.ofInt 64 ((2 ^ n - 1 : Nat) : Int)).toNat, ?_, ?_⟩
  · show IntKind.wrap .u64 _ = _
    rw [wrap_u64, UInt64.toNat_ofNat']
    show ((BitVec.ofInt 64 a &&& BitVec.ofInt 64 ((2 ^ n - 1 : Nat) : Int)).toNat : Int) % 18446744073709551616 = _
    omega
  · have h1 : (BitVec.ofInt 64 a &&& BitVec.ofInt 64 ((2 ^ n - 1 : Nat) : Int)).toNat < 2 ^ n := by
      rw [BitVec.toNat_and]
      refine Nat.lt_of_le_of_lt Nat.and_le_right ?_
      rcases hn with rfl | rfl <;> decide
    rw [UInt64.toNat_ofNat', Nat.mod_eq_of_lt (by rcases hn with rfl | rfl <;> omega)]
    exact h1
theorem shl_one {n : Nat} (hn : n = 64 ∨ n = 32 ∨ n = 7) {x : Int} (h0 : 0 ≤ x) (h1 : x < n) : ∃ u : UInt64, ishl .u64 1 x = ↑u.toNat ∧ u ≠ 0 ∧ u.toNat < 2 ^ n := by
  obtain ⟨x, rfl⟩ := Int.eq_ofNat_of_zero_le h0
  have hx : x < n := by omega
  have h2 : 2 ^ x < 2 ^ n := Nat.pow_lt_pow_right (by omega) hx
  have h3 : 2 ^ n ≤ 2 ^ 64 := Nat.pow_le_pow_right (by omega) (by omega)
  have h4 : 0 < 2 ^ x := Nat.pos_of_neZero _
  have e : (UInt64.ofNat (2 ^ x)).toNat = 2 ^ x := by rw [UInt64.toNat_ofNat', Nat.mod_eq_of_lt (by omega)]
  refine ⟨UInt64.ofNat (2 ^ x), ?_, ?_, by omega⟩
  · unfold ishl
    rw [wrap_u64, e]
    show (1 * 2 ^ min x 64 : Int) % _ = _
    rw [Nat.min_eq_left (by omega), Int.one_mul]
    have : ((2 : Int) ^ x) = ((2 ^ x : Nat) : Int) := by simp
    rw [this]; omega
  · intro q
    rw [q] at e
    simp at e
    omega

theorem u64_any (k : Int) : (∃ u : UInt64, IntKind.wrap .u64 k = ↑u.toNat) := ⟨_, wrap64u k⟩
theorem c_mask {n : Nat} (hn : n = 64 ∨ n = 32 ∨ n = 7) : DkC 112 (fun k => [.ptr k [] 0, .v (.int .i64 n)]) (fun x : UInt64 × Dk => x.1 ≠ 0 ∧ x.1.toNat < 2 ^ n) (·.2) (fun x => .v (.int .u64 x.1.toNat)) := by
  refine DkC.mk fun W k d h => ?_

  rcases hn with rfl | rfl | rfl
  · refine ACalls.enter Tryd.call112 Tryd.func112 rfl ?_
    refine AW.sound nopl mixed Tryd.func112 (by rw [Tryd.results112]) 1000 ?_
    simp -implicitDefEqProofs only [↓reduceIte, go_sem, Tryd.ntmps112, h.got0, h.put0, h.get]
    refine ACalls.useX (by repeat (first | exact WkL.nil | refine WkL.cons (Wk.refl _) ?_ | refine WkL.cons Wk.sla ?_ | refine WkL.cons Wk.sl ?_ | refine WkL.cons Wk.empty ?_ | refine WkL.cons Wk.nil ?_ | refine WkL.cons (Wk.node (by repeat' (first | exact WkL.nil | refine WkL.cons ?_ ?_ | exact Wk.refl _ | exact Wk.sla | exact Wk.sl | exact Wk.empty | exact Wk.nil | refine Wk.node ?_))) ?_)) ((c_Next (by omega) (by omega)) _ _ _ h) ?_
    rintro ⟨x, d⟩ ⟨h2, h3⟩
    try dsimp only at h2 h3
    simp -implicitDefEqProofs only [↓reduceIte, go_sem, h.got0, h.put0, h.get]
    refine brk.beq (fun q => ?_) (fun q => ?_)
    · simp -implicitDefEqProofs only [↓reduceIte, go_sem, h.got0, h.put0, h.get]
      refine ACalls.useX (by repeat (first | exact WkL.nil | refine WkL.cons (Wk.refl _) ?_ | refine WkL.cons Wk.sla ?_ | refine WkL.cons Wk.sl ?_ | refine WkL.cons Wk.empty ?_ | refine WkL.cons Wk.nil ?_ | refine WkL.cons (Wk.node (by repeat' (first | exact WkL.nil | refine WkL.cons ?_ ?_ | exact Wk.refl _ | exact Wk.sla | exact Wk.sl | exact Wk.empty | exact Wk.nil | refine Wk.node ?_))) ?_)) ((c_Next (by omega) (by omega)).use1 h _) ?_
      rintro ⟨x, d⟩ ⟨h2, h3⟩
      try dsimp only at h2 h3
      simp -implicitDefEqProofs only [↓reduceIte, go_sem, h.got0, h.put0, h.get]
      obtain ⟨u, hu⟩ : ∃ u : UInt64, IntKind.wrap .u64 x = ↑u.toNat := u64_any _
      have hb := u.toNat_lt
      rw [hu]
      refine brk.beq (fun q5 => ?_) (fun q5 => ?_)
      · simp -implicitDefEqProofs only [↓reduceIte, go_sem, h.got0, h.put0, h.get]
        refine ACalls.useX (by repeat (first | exact WkL.nil | refine WkL.cons (Wk.refl _) ?_ | refine WkL.cons Wk.sla ?_ | refine WkL.cons Wk.sl ?_ | refine WkL.cons Wk.empty ?_ | refine WkL.cons Wk.nil ?_ | refine WkL.cons (Wk.node (by repeat' (first | exact WkL.nil | refine WkL.cons ?_ ?_ | exact Wk.refl _ | exact Wk.sla | exact Wk.sl | exact Wk.empty | exact Wk.nil | refine Wk.node ?_))) ?_)) ((c_Next (by omega) (by omega)).use1 h _) ?_
        rintro ⟨y, d⟩ ⟨h4, h5⟩
        try dsimp only at h4 h5
        simp -implicitDefEqProofs only [↓reduceIte, go_sem, h.got0, h.put0, h.get]
        have hy : IntKind.wrap .u64 y = y := by rw [wrap_u64]; omega
        obtain ⟨v, hv, v0, v1⟩ := shl_one (n := 64) (by omega) h4 (by omega)
        rw [hy, hv]
        exact ⟨h4, (v, d), ⟨v0, v1⟩, .here (.refl _) trivial⟩
      · simp -implicitDefEqProofs only [↓reduceIte, go_sem, h.got0, h.put0, h.get]
        exact ⟨(u, d), ⟨by rintro rfl; exact q5 rfl, hb⟩, .here (.refl _) trivial⟩
    simp -implicitDefEqProofs only [↓reduceIte, go_sem, h.got0, h.put0, h.get]
    refine brk.beq (fun q1 => ?_) (fun q1 => ?_)
    · simp -implicitDefEqProofs only [↓reduceIte, go_sem, h.got0, h.put0, h.get]
      try refine ⟨Lock.ok (by decide +kernel), ?_⟩
      refine ACalls.useX (by repeat (first | exact WkL.nil | refine WkL.cons (Wk.refl _) ?_ | refine WkL.cons Wk.sla ?_ | refine WkL.cons Wk.sl ?_ | refine WkL.cons Wk.empty ?_ | refine WkL.cons Wk.nil ?_ | refine WkL.cons (Wk.node (by repeat' (first | exact WkL.nil | refine WkL.cons ?_ ?_ | exact Wk.refl _ | exact Wk.sla | exact Wk.sl | exact Wk.empty | exact Wk.nil | refine Wk.node ?_))) ?_)) ((c_Next (by omega) (by omega)).use1 h _) ?_
      rintro ⟨x, d⟩ ⟨h2, h3⟩
      try dsimp only at h2 h3
      simp -implicitDefEqProofs only [↓reduceIte, go_sem, h.got0, h.put0, h.get]
      refine ACalls.useX (by repeat (first | exact WkL.nil | refine WkL.cons (Wk.refl _) ?_ | refine WkL.cons Wk.sla ?_ | refine WkL.cons Wk.sl ?_ | refine WkL.cons Wk.empty ?_ | refine WkL.cons Wk.nil ?_ | refine WkL.cons (Wk.node (by repeat' (first | exact WkL.nil | refine WkL.cons ?_ ?_ | exact Wk.refl _ | exact Wk.sla | exact Wk.sl | exact Wk.empty | exact Wk.nil | refine Wk.node ?_))) ?_)) ((c_Next (by omega) (by omega)).use1 h _) ?_
      rintro ⟨z, d⟩ ⟨h6, h7⟩
      try dsimp only at h6 h7
      simp -implicitDefEqProofs only [↓reduceIte, go_sem, h.got0, h.put0, h.get]
      obtain ⟨u, hu⟩ : ∃ u : UInt64, ior .u64 (IntKind.wrap .u64 x) (ishl .u64 (IntKind.wrap .u64 z) 48) = ↑u.toNat := u64_any _
      have hb := u.toNat_lt
      rw [hu]
      refine brk.beq (fun q5 => ?_) (fun q5 => ?_)
      · simp -implicitDefEqProofs only [↓reduceIte, go_sem, h.got0, h.put0, h.get]
        refine ACalls.useX (by repeat (first | exact WkL.nil | refine WkL.cons (Wk.refl _) ?_ | refine WkL.cons Wk.sla ?_ | refine WkL.cons Wk.sl ?_ | refine WkL.cons Wk.empty ?_ | refine WkL.cons Wk.nil ?_ | refine WkL.cons (Wk.node (by repeat' (first | exact WkL.nil | refine WkL.cons ?_ ?_ | exact Wk.refl _ | exact Wk.sla | exact Wk.sl | exact Wk.empty | exact Wk.nil | refine Wk.node ?_))) ?_)) ((c_Next (by omega) (by omega)).use1 h _) ?_
        rintro ⟨y, d⟩ ⟨h4, h5⟩
        try dsimp only at h4 h5
        simp -implicitDefEqProofs only [↓reduceIte, go_sem, h.got0, h.put0, h.get]
        have hy : IntKind.wrap .u64 y = y := by rw [wrap_u64]; omega
        obtain ⟨v, hv, v0, v1⟩ := shl_one (n := 64) (by omega) h4 (by omega)
        rw [hy, hv]
        exact ⟨h4, (v, d), ⟨v0, v1⟩, .here (.refl _) trivial⟩
      · simp -implicitDefEqProofs only [↓reduceIte, go_sem, h.got0, h.put0, h.get]
        exact ⟨(u, d), ⟨by rintro rfl; exact q5 rfl, hb⟩, .here (.refl _) trivial⟩
    simp -implicitDefEqProofs only [↓reduceIte, go_sem, h.got0, h.put0, h.get]
    refine brk.beq (fun q2 => ?_) (fun q2 => ?_)
    · simp -implicitDefEqProofs only [↓reduceIte, go_sem, h.got0, h.put0, h.get]
      refine ACalls.useX (by repeat (first | exact WkL.nil | refine WkL.cons (Wk.refl _) ?_ | refine WkL.cons Wk.sla ?_ | refine WkL.cons Wk.sl ?_ | refine WkL.cons Wk.empty ?_ | refine WkL.cons Wk.nil ?_ | refine WkL.cons (Wk.node (by repeat' (first | exact WkL.nil | refine WkL.cons ?_ ?_ | exact Wk.refl _ | exact Wk.sla | exact Wk.sl | exact Wk.empty | exact Wk.nil | refine Wk.node ?_))) ?_)) ((c_Next (by omega) (by omega)).use1 h _) ?_
      rintro ⟨x, d⟩ ⟨h2, h3⟩
      try dsimp only at h2 h3
      simp -implicitDefEqProofs only [↓reduceIte, go_sem, h.got0, h.put0, h.get]
      obtain ⟨u, hu⟩ : ∃ u : UInt64, inot .u64 (IntKind.wrap .u64 x) = ↑u.toNat := u64_any _
      have hb := u.toNat_lt
      rw [hu]
      refine brk.beq (fun q5 => ?_) (fun q5 => ?_)
      · simp -implicitDefEqProofs only [↓reduceIte, go_sem, h.got0, h.put0, h.get]
        refine ACalls.useX (by repeat (first | exact WkL.nil | refine WkL.cons (Wk.refl _) ?_ | refine WkL.cons Wk.sla ?_ | refine WkL.cons Wk.sl ?_ | refine WkL.cons Wk.empty ?_ | refine WkL.cons Wk.nil ?_ | refine WkL.cons (Wk.node (by repeat' (first | exact WkL.nil | refine WkL.cons ?_ ?_ | exact Wk.refl _ | exact Wk.sla | exact Wk.sl | exact Wk.empty | exact Wk.nil | refine Wk.node ?_))) ?_)) ((c_Next (by omega) (by omega)).use1 h _) ?_
        rintro ⟨y, d⟩ ⟨h4, h5⟩
        try dsimp only at h4 h5
        simp -implicitDefEqProofs only [↓reduceIte, go_sem, h.got0, h.put0, h.get]
        have hy : IntKind.wrap .u64 y = y := by rw [wrap_u64]; omega
        obtain ⟨v, hv, v0, v1⟩ := shl_one (n := 64) (by omega) h4 (by omega)
        rw [hy, hv]
        exact ⟨h4, (v, d), ⟨v0, v1⟩, .here (.refl _) trivial⟩
      · simp -implicitDefEqProofs only [↓reduceIte, go_sem, h.got0, h.put0, h.get]
        exact ⟨(u, d), ⟨by rintro rfl; exact q5 rfl, hb⟩, .here (.refl _) trivial⟩
    simp -implicitDefEqProofs only [↓reduceIte, go_sem, h.got0, h.put0, h.get]
    refine ACalls.useX (by repeat (first | exact WkL.nil | refine WkL.cons (Wk.refl _) ?_ | refine WkL.cons Wk.sla ?_ | refine WkL.cons Wk.sl ?_ | refine WkL.cons Wk.empty ?_ | refine WkL.cons Wk.nil ?_ | refine WkL.cons (Wk.node (by repeat' (first | exact WkL.nil | refine WkL.cons ?_ ?_ | exact Wk.refl _ | exact Wk.sla | exact Wk.sl | exact Wk.empty | exact Wk.nil | refine Wk.node ?_))) ?_)) ((c_Next (by omega) (by omega)).use1 h _) ?_
    rintro ⟨y, d⟩ ⟨h4, h5⟩
    try dsimp only at h4 h5
    simp -implicitDefEqProofs only [↓reduceIte, go_sem, h.got0, h.put0, h.get]
    have hy : IntKind.wrap .u64 y = y := by rw [wrap_u64]; omega
    obtain ⟨v, hv, v0, v1⟩ := shl_one (n := 64) (by omega) h4 (by omega)
    rw [hy, hv]
    exact ⟨h4, (v, d), ⟨v0, v1⟩, .here (.refl _) trivial⟩
  · refine ACalls.enter Tryd.call112 Tryd.func112 rfl ?_
    refine AW.sound nopl mixed Tryd.func112 (by rw [Tryd.results112]) 1000 ?_
    simp -implicitDefEqProofs only [↓reduceIte, go_sem, Tryd.ntmps112, h.got0, h.put0, h.get]
    refine ACalls.useX (by repeat (first | exact WkL.nil | refine WkL.cons (Wk.refl _) ?_ | refine WkL.cons Wk.sla ?_ | refine WkL.cons Wk.sl ?_ | refine WkL.cons Wk.empty ?_ | refine WkL.cons Wk.nil ?_ | refine WkL.cons (Wk.node (by repeat' (first | exact WkL.nil | refine WkL.cons ?_ ?_ | exact Wk.refl _ | exact Wk.sla | exact Wk.sl | exact Wk.empty | exact Wk.nil | refine Wk.node ?_))) ?_)) ((c_Next (by omega) (by omega)) _ _ _ h) ?_
    rintro ⟨x, d⟩ ⟨h2, h3⟩
    try dsimp only at h2 h3
    simp -implicitDefEqProofs only [↓reduceIte, go_sem, h.got0, h.put0, h.get]
    refine brk.beq (fun q => ?_) (fun q => ?_)
    · simp -implicitDefEqProofs only [↓reduceIte, go_sem, h.got0, h.put0, h.get]
      refine ACalls.useX (by repeat (first | exact WkL.nil | refine WkL.cons (Wk.refl _) ?_ | refine WkL.cons Wk.sla ?_ | refine WkL.cons Wk.sl ?_ | refine WkL.cons Wk.empty ?_ | refine WkL.cons Wk.nil ?_ | refine WkL.cons (Wk.node (by repeat' (first | exact WkL.nil | refine WkL.cons ?_ ?_ | exact Wk.refl _ | exact Wk.sla | exact Wk.sl | exact Wk.empty | exact Wk.nil | refine Wk.node ?_))) ?_)) ((c_Next (by omega) (by omega)).use1 h _) ?_
      rintro ⟨x, d⟩ ⟨h2, h3⟩
      try dsimp only at h2 h3
      simp -implicitDefEqProofs only [↓reduceIte, go_sem, h.got0, h.put0, h.get]
      obtain ⟨u, hu, hb⟩ := iand_mask (n := 32) (.inl rfl) (IntKind.wrap .u64 x)
      simp only [Int.cast_ofNat_Int] at hu
      rw [hu]
      refine brk.beq (fun q5 => ?_) (fun q5 => ?_)
      · simp -implicitDefEqProofs only [↓reduceIte, go_sem, h.got0, h.put0, h.get]
        refine ACalls.useX (by repeat (first | exact WkL.nil | refine WkL.cons (Wk.refl _) ?_ | refine WkL.cons Wk.sla ?_ | refine WkL.cons Wk.sl ?_ | refine WkL.cons Wk.empty ?_ | refine WkL.cons Wk.nil ?_ | refine WkL.cons (Wk.node (by repeat' (first | exact WkL.nil | refine WkL.cons ?_ ?_ | exact Wk.refl _ | exact Wk.sla | exact Wk.sl | exact Wk.empty | exact Wk.nil | refine Wk.node ?_))) ?_)) ((c_Next (by omega) (by omega)).use1 h _) ?_
        rintro ⟨y, d⟩ ⟨h4, h5⟩
        try dsimp only at h4 h5
        simp -implicitDefEqProofs only [↓reduceIte, go_sem, h.got0, h.put0, h.get]
        have hy : IntKind.wrap .u64 y = y := by rw [wrap_u64]; omega
        obtain ⟨v, hv, v0, v1⟩ := shl_one (n := 32) (by omega) h4 (by omega)
        rw [hy, hv]
        exact ⟨h4, (v, d), ⟨v0, v1⟩, .here (.refl _) trivial⟩
      · simp -implicitDefEqProofs only [↓reduceIte, go_sem, h.got0, h.put0, h.get]
        exact ⟨(u, d), ⟨by rintro rfl; exact q5 rfl, hb⟩, .here (.refl _) trivial⟩
    simp -implicitDefEqProofs only [↓reduceIte, go_sem, h.got0, h.put0, h.get]
    refine brk.beq (fun q1 => ?_) (fun q1 => ?_)
    · simp -implicitDefEqProofs only [↓reduceIte, go_sem, h.got0, h.put0, h.get]
      try refine ⟨Lock.ok (by decide +kernel), ?_⟩
      refine ACalls.useX (by repeat (first | exact WkL.nil | refine WkL.cons (Wk.refl _) ?_ | refine WkL.cons Wk.sla ?_ | refine WkL.cons Wk.sl ?_ | refine WkL.cons Wk.empty ?_ | refine WkL.cons Wk.nil ?_ | refine WkL.cons (Wk.node (by repeat' (first | exact WkL.nil | refine WkL.cons ?_ ?_ | exact Wk.refl _ | exact Wk.sla | exact Wk.sl | exact Wk.empty | exact Wk.nil | refine Wk.node ?_))) ?_)) ((c_Next (by omega) (by omega)).use1 h _) ?_
      rintro ⟨x, d⟩ ⟨h2, h3⟩
      try dsimp only at h2 h3
      simp -implicitDefEqProofs only [↓reduceIte, go_sem, h.got0, h.put0, h.get]
      refine ACalls.useX (by repeat (first | exact WkL.nil | refine WkL.cons (Wk.refl _) ?_ | refine WkL.cons Wk.sla ?_ | refine WkL.cons Wk.sl ?_ | refine WkL.cons Wk.empty ?_ | refine WkL.cons Wk.nil ?_ | refine WkL.cons (Wk.node (by repeat' (first | exact WkL.nil | refine WkL.cons ?_ ?_ | exact Wk.refl _ | exact Wk.sla | exact Wk.sl | exact Wk.empty | exact Wk.nil | refine Wk.node ?_))) ?_)) ((c_Next (by omega) (by omega)).use1 h _) ?_
      rintro ⟨z, d⟩ ⟨h6, h7⟩
      try dsimp only at h6 h7
      simp -implicitDefEqProofs only [↓reduceIte, go_sem, h.got0, h.put0, h.get]
      obtain ⟨u, hu, hb⟩ := iand_mask (n := 32) (.inl rfl) (ior .u64 (IntKind.wrap .u64 x) (ishl .u64 (IntKind.wrap .u64 z) 48))
      simp only [Int.cast_ofNat_Int] at hu
      rw [hu]
      refine brk.beq (fun q5 => ?_) (fun q5 => ?_)
      · simp -implicitDefEqProofs only [↓reduceIte, go_sem, h.got0, h.put0, h.get]
        refine ACalls.useX (by repeat (first | exact WkL.nil | refine WkL.cons (Wk.refl _) ?_ | refine WkL.cons Wk.sla ?_ | refine WkL.cons Wk.sl ?_ | refine WkL.cons Wk.empty ?_ | refine WkL.cons Wk.nil ?_ | refine WkL.cons (Wk.node (by repeat' (first | exact WkL.nil | refine WkL.cons ?_ ?_ | exact Wk.refl _ | exact Wk.sla | exact Wk.sl | exact Wk.empty | exact Wk.nil | refine Wk.node ?_))) ?_)) ((c_Next (by omega) (by omega)).use1 h _) ?_
        rintro ⟨y, d⟩ ⟨h4, h5⟩
        try dsimp only at h4 h5
        simp -implicitDefEqProofs only [↓reduceIte, go_sem, h.got0, h.put0, h.get]
        have hy : IntKind.wrap .u64 y = y := by rw [wrap_u64]; omega
        obtain ⟨v, hv, v0, v1⟩ := shl_one (n := 32) (by omega) h4 (by omega)
        rw [hy, hv]
        exact ⟨h4, (v, d), ⟨v0, v1⟩, .here (.refl _) trivial⟩
      · simp -implicitDefEqProofs only [↓reduceIte, go_sem, h.got0, h.put0, h.get]
        exact ⟨(u, d), ⟨by rintro rfl; exact q5 rfl, hb⟩, .here (.refl _) trivial⟩
    simp -implicitDefEqProofs only [↓reduceIte, go_sem, h.got0, h.put0, h.get]
    refine brk.beq (fun q2 => ?_) (fun q2 => ?_)
    · simp -implicitDefEqProofs only [↓reduceIte, go_sem, h.got0, h.put0, h.get]
      refine ACalls.useX (by repeat (first | exact WkL.nil | refine WkL.cons (Wk.refl _) ?_ | refine WkL.cons Wk.sla ?_ | refine WkL.cons Wk.sl ?_ | refine WkL.cons Wk.empty ?_ | refine WkL.cons Wk.nil ?_ | refine WkL.cons (Wk.node (by repeat' (first | exact WkL.nil | refine WkL.cons ?_ ?_ | exact Wk.refl _ | exact Wk.sla | exact Wk.sl | exact Wk.empty | exact Wk.nil | refine Wk.node ?_))) ?_)) ((c_Next (by omega) (by omega)).use1 h _) ?_
      rintro ⟨x, d⟩ ⟨h2, h3⟩
      try dsimp only at h2 h3
      simp -implicitDefEqProofs only [↓reduceIte, go_sem, h.got0, h.put0, h.get]
      obtain ⟨u, hu, hb⟩ := iand_mask (n := 32) (.inl rfl) (inot .u64 (IntKind.wrap .u64 x))
      simp only [Int.cast_ofNat_Int] at hu
      rw [hu]
      refine brk.beq (fun q5 => ?_) (fun q5 => ?_)
      · simp -implicitDefEqProofs only [↓reduceIte, go_sem, h.got0, h.put0, h.get]
        refine ACalls.useX (by repeat (first | exact WkL.nil | refine WkL.cons (Wk.refl _) ?_ | refine WkL.cons Wk.sla ?_ | refine WkL.cons Wk.sl ?_ | refine WkL.cons Wk.empty ?_ | refine WkL.cons Wk.nil ?_ | refine WkL.cons (Wk.node (by repeat' (first | exact WkL.nil | refine WkL.cons ?_ ?_ | exact Wk.refl _ | exact Wk.sla | exact Wk.sl | exact Wk.empty | exact Wk.nil | refine Wk.node ?_))) ?_)) ((c_Next (by omega) (by omega)).use1 h _) ?_
        rintro ⟨y, d⟩ ⟨h4, h5⟩
        try dsimp only at h4 h5
        simp -implicitDefEqProofs only [↓reduceIte, go_sem, h.got0, h.put0, h.get]
        have hy : IntKind.wrap .u64 y = y := by rw [wrap_u64]; omega
        obtain ⟨v, hv, v0, v1⟩ := shl_one (n := 32) (by omega) h4 (by omega)
        rw [hy, hv]
        exact ⟨h4, (v, d), ⟨v0, v1⟩, .here (.refl _) trivial⟩
      · simp -implicitDefEqProofs only [↓reduceIte, go_sem, h.got0, h.put0, h.get]
        exact ⟨(u, d), ⟨by rintro rfl; exact q5 rfl, hb⟩, .here (.refl _) trivial⟩
    simp -implicitDefEqProofs only [↓reduceIte, go_sem, h.got0, h.put0, h.get]
    obtain ⟨u, hu, hb⟩ := iand_mask (n := 32) (.inl rfl) (0)
    simp only [Int.cast_ofNat_Int] at hu
    rw [hu]
    refine brk.beq (fun q5 => ?_) (fun q5 => ?_)
    · simp -implicitDefEqProofs only [↓reduceIte, go_sem, h.got0, h.put0, h.get]
      refine ACalls.useX (by repeat (first | exact WkL.nil | refine WkL.cons (Wk.refl _) ?_ | refine WkL.cons Wk.sla ?_ | refine WkL.cons Wk.sl ?_ | refine WkL.cons Wk.empty ?_ | refine WkL.cons Wk.nil ?_ | refine WkL.cons (Wk.node (by repeat' (first | exact WkL.nil | refine WkL.cons ?_ ?_ | exact Wk.refl _ | exact Wk.sla | exact Wk.sl | exact Wk.empty | exact Wk.nil | refine Wk.node ?_))) ?_)) ((c_Next (by omega) (by omega)).use1 h _) ?_
      rintro ⟨y, d⟩ ⟨h4, h5⟩
      try dsimp only at h4 h5
      simp -implicitDefEqProofs only [↓reduceIte, go_sem, h.got0, h.put0, h.get]
      have hy : IntKind.wrap .u64 y = y := by rw [wrap_u64]; omega
      obtain ⟨v, hv, v0, v1⟩ := shl_one (n := 32) (by omega) h4 (by omega)
      rw [hy, hv]
      exact ⟨h4, (v, d), ⟨v0, v1⟩, .here (.refl _) trivial⟩
    · simp -implicitDefEqProofs only [↓reduceIte, go_sem, h.got0, h.put0, h.get]
      exact ⟨(u, d), ⟨by rintro rfl; exact q5 rfl, hb⟩, .here (.refl _) trivial⟩
  · refine ACalls.enter Tryd.call112 Tryd.func112 rfl ?_
    refine AW.sound nopl mixed Tryd.func112 (by rw [Tryd.results112]) 1000 ?_
    simp -implicitDefEqProofs only [↓reduceIte, go_sem, Tryd.ntmps112, h.got0, h.put0, h.get]
    refine ACalls.useX (by repeat (first | exact WkL.nil | refine WkL.cons (Wk.refl _) ?_ | refine WkL.cons Wk.sla ?_ | refine WkL.cons Wk.sl ?_ | refine WkL.cons Wk.empty ?_ | refine WkL.cons Wk.nil ?_ | refine WkL.cons (Wk.node (by repeat' (first | exact WkL.nil | refine WkL.cons ?_ ?_ | exact Wk.refl _ | exact Wk.sla | exact Wk.sl | exact Wk.empty | exact Wk.nil | refine Wk.node ?_))) ?_)) ((c_Next (by omega) (by omega)) _ _ _ h) ?_
    rintro ⟨x, d⟩ ⟨h2, h3⟩
    try dsimp only at h2 h3
    simp -implicitDefEqProofs only [↓reduceIte, go_sem, h.got0, h.put0, h.get]
    refine brk.beq (fun q => ?_) (fun q => ?_)
    · simp -implicitDefEqProofs only [↓reduceIte, go_sem, h.got0, h.put0, h.get]
      refine ACalls.useX (by repeat (first | exact WkL.nil | refine WkL.cons (Wk.refl _) ?_ | refine WkL.cons Wk.sla ?_ | refine WkL.cons Wk.sl ?_ | refine WkL.cons Wk.empty ?_ | refine WkL.cons Wk.nil ?_ | refine WkL.cons (Wk.node (by repeat' (first | exact WkL.nil | refine WkL.cons ?_ ?_ | exact Wk.refl _ | exact Wk.sla | exact Wk.sl | exact Wk.empty | exact Wk.nil | refine Wk.node ?_))) ?_)) ((c_Next (by omega) (by omega)).use1 h _) ?_
      rintro ⟨x, d⟩ ⟨h2, h3⟩
      try dsimp only at h2 h3
      simp -implicitDefEqProofs only [↓reduceIte, go_sem, h.got0, h.put0, h.get]
      obtain ⟨u, hu, hb⟩ := iand_mask (n := 7) (.inr rfl) (IntKind.wrap .u64 x)
      simp only [Int.cast_ofNat_Int] at hu
      rw [hu]
      refine brk.beq (fun q5 => ?_) (fun q5 => ?_)
      · simp -implicitDefEqProofs only [↓reduceIte, go_sem, h.got0, h.put0, h.get]
        refine ACalls.useX (by repeat (first | exact WkL.nil | refine WkL.cons (Wk.refl _) ?_ | refine WkL.cons Wk.sla ?_ | refine WkL.cons Wk.sl ?_ | refine WkL.cons Wk.empty ?_ | refine WkL.cons Wk.nil ?_ | refine WkL.cons (Wk.node (by repeat' (first | exact WkL.nil | refine WkL.cons ?_ ?_ | exact Wk.refl _ | exact Wk.sla | exact Wk.sl | exact Wk.empty | exact Wk.nil | refine Wk.node ?_))) ?_)) ((c_Next (by omega) (by omega)).use1 h _) ?_
        rintro ⟨y, d⟩ ⟨h4, h5⟩
        try dsimp only at h4 h5
        simp -implicitDefEqProofs only [↓reduceIte, go_sem, h.got0, h.put0, h.get]
        have hy : IntKind.wrap .u64 y = y := by rw [wrap_u64]; omega
        obtain ⟨v, hv, v0, v1⟩ := shl_one (n := 7) (by omega) h4 (by omega)
        rw [hy, hv]
        exact ⟨h4, (v, d), ⟨v0, v1⟩, .here (.refl _) trivial⟩
      · simp -implicitDefEqProofs only [↓reduceIte, go_sem, h.got0, h.put0, h.get]
        exact ⟨(u, d), ⟨by rintro rfl; exact q5 rfl, hb⟩, .here (.refl _) trivial⟩
    simp -implicitDefEqProofs only [↓reduceIte, go_sem, h.got0, h.put0, h.get]
    refine brk.beq (fun q1 => ?_) (fun q1 => ?_)
    · simp -implicitDefEqProofs only [↓reduceIte, go_sem, h.got0, h.put0, h.get]
      try refine ⟨Lock.ok (by decide +kernel), ?_⟩
      refine ACalls.useX (by repeat (first | exact WkL.nil | refine WkL.cons (Wk.refl _) ?_ | refine WkL.cons Wk.sla ?_ | refine WkL.cons Wk.sl ?_ | refine WkL.cons Wk.empty ?_ | refine WkL.cons Wk.nil ?_ | refine WkL.cons (Wk.node (by repeat' (first | exact WkL.nil | refine WkL.cons ?_ ?_ | exact Wk.refl _ | exact Wk.sla | exact Wk.sl | exact Wk.empty | exact Wk.nil | refine Wk.node ?_))) ?_)) ((c_Next (by omega) (by omega)).use1 h _) ?_
      rintro ⟨x, d⟩ ⟨h2, h3⟩
      try dsimp only at h2 h3
      simp -implicitDefEqProofs only [↓reduceIte, go_sem, h.got0, h.put0, h.get]
      refine ACalls.useX (by repeat (first | exact WkL.nil | refine WkL.cons (Wk.refl _) ?_ | refine WkL.cons Wk.sla ?_ | refine WkL.cons Wk.sl ?_ | refine WkL.cons Wk.empty ?_ | refine WkL.cons Wk.nil ?_ | refine WkL.cons (Wk.node (by repeat' (first | exact WkL.nil | refine WkL.cons ?_ ?_ | exact Wk.refl _ | exact Wk.sla | exact Wk.sl | exact Wk.empty | exact Wk.nil | refine Wk.node ?_))) ?_)) ((c_Next (by omega) (by omega)).use1 h _) ?_
      rintro ⟨z, d⟩ ⟨h6, h7⟩
      try dsimp only at h6 h7
      simp -implicitDefEqProofs only [↓reduceIte, go_sem, h.got0, h.put0, h.get]
      obtain ⟨u, hu, hb⟩ := iand_mask (n := 7) (.inr rfl) (ior .u64 (IntKind.wrap .u64 x) (ishl .u64 (IntKind.wrap .u64 z) 48))
      simp only [Int.cast_ofNat_Int] at hu
      rw [hu]
      refine brk.beq (fun q5 => ?_) (fun q5 => ?_)
      · simp -implicitDefEqProofs only [↓reduceIte, go_sem, h.got0, h.put0, h.get]
        refine ACalls.useX (by repeat (first | exact WkL.nil | refine WkL.cons (Wk.refl _) ?_ | refine WkL.cons Wk.sla ?_ | refine WkL.cons Wk.sl ?_ | refine WkL.cons Wk.empty ?_ | refine WkL.cons Wk.nil ?_ | refine WkL.cons (Wk.node (by repeat' (first | exact WkL.nil | refine WkL.cons ?_ ?_ | exact Wk.refl _ | exact Wk.sla | exact Wk.sl | exact Wk.empty | exact Wk.nil | refine Wk.node ?_))) ?_)) ((c_Next (by omega) (by omega)).use1 h _) ?_
        rintro ⟨y, d⟩ ⟨h4, h5⟩
        try dsimp only at h4 h5
        simp -implicitDefEqProofs only [↓reduceIte, go_sem, h.got0, h.put0, h.get]
        have hy : IntKind.wrap .u64 y = y := by rw [wrap_u64]; omega
        obtain ⟨v, hv, v0, v1⟩ := shl_one (n := 7) (by omega) h4 (by omega)
        rw [hy, hv]
        exact ⟨h4, (v, d), ⟨v0, v1⟩, .here (.refl _) trivial⟩
      · simp -implicitDefEqProofs only [↓reduceIte, go_sem, h.got0, h.put0, h.get]
        exact ⟨(u, d), ⟨by rintro rfl; exact q5 rfl, hb⟩, .here (.refl _) trivial⟩
    simp -implicitDefEqProofs only [↓reduceIte, go_sem, h.got0, h.put0, h.get]
    refine brk.beq (fun q2 => ?_) (fun q2 => ?_)
    · simp -implicitDefEqProofs only [↓reduceIte, go_sem, h.got0, h.put0, h.get]
      refine ACalls.useX (by repeat (first | exact WkL.nil | refine WkL.cons (Wk.refl _) ?_ | refine WkL.cons Wk.sla ?_ | refine WkL.cons Wk.sl ?_ | refine WkL.cons Wk.empty ?_ | refine WkL.cons Wk.nil ?_ | refine WkL.cons (Wk.node (by repeat' (first | exact WkL.nil | refine WkL.cons ?_ ?_ | exact Wk.refl _ | exact Wk.sla | exact Wk.sl | exact Wk.empty | exact Wk.nil | refine Wk.node ?_))) ?_)) ((c_Next (by omega) (by omega)).use1 h _) ?_
      rintro ⟨x, d⟩ ⟨h2, h3⟩
      try dsimp only at h2 h3
      simp -implicitDefEqProofs only [↓reduceIte, go_sem, h.got0, h.put0, h.get]
      obtain ⟨u, hu, hb⟩ := iand_mask (n := 7) (.inr rfl) (inot .u64 (IntKind.wrap .u64 x))
      simp only [Int.cast_ofNat_Int] at hu
      rw [hu]
      refine brk.beq (fun q5 => ?_) (fun q5 => ?_)
      · simp -implicitDefEqProofs only [↓reduceIte, go_sem, h.got0, h.put0, h.get]
        refine ACalls.useX (by repeat (first | exact WkL.nil | refine WkL.cons (Wk.refl _) ?_ | refine WkL.cons Wk.sla ?_ | refine WkL.cons Wk.sl ?_ | refine WkL.cons Wk.empty ?_ | refine WkL.cons Wk.nil ?_ | refine WkL.cons (Wk.node (by repeat' (first | exact WkL.nil | refine WkL.cons ?_ ?_ | exact Wk.refl _ | exact Wk.sla | exact Wk.sl | exact Wk.empty | exact Wk.nil | refine Wk.node ?_))) ?_)) ((c_Next (by omega) (by omega)).use1 h _) ?_
        rintro ⟨y, d⟩ ⟨h4, h5⟩
        try dsimp only at h4 h5
        simp -implicitDefEqProofs only [↓reduceIte, go_sem, h.got0, h.put0, h.get]
        have hy : IntKind.wrap .u64 y = y := by rw [wrap_u64]; omega
        obtain ⟨v, hv, v0, v1⟩ := shl_one (n := 7) (by omega) h4 (by omega)
        rw [hy, hv]
        exact ⟨h4, (v, d), ⟨v0, v1⟩, .here (.refl _) trivial⟩
      · simp -implicitDefEqProofs only [↓reduceIte, go_sem, h.got0, h.put0, h.get]
        exact ⟨(u, d), ⟨by rintro rfl; exact q5 rfl, hb⟩, .here (.refl _) trivial⟩
    simp -implicitDefEqProofs only [↓reduceIte, go_sem, h.got0, h.put0, h.get]
    obtain ⟨u, hu, hb⟩ := iand_mask (n := 7) (.inr rfl) (0)
    simp only [Int.cast_ofNat_Int] at hu
    rw [hu]
    refine brk.beq (fun q5 => ?_) (fun q5 => ?_)
    · simp -implicitDefEqProofs only [↓reduceIte, go_sem, h.got0, h.put0, h.get]
      refine ACalls.useX (by repeat (first | exact WkL.nil | refine WkL.cons (Wk.refl _) ?_ | refine WkL.cons Wk.sla ?_ | refine WkL.cons Wk.sl ?_ | refine WkL.cons Wk.empty ?_ | refine WkL.cons Wk.nil ?_ | refine WkL.cons (Wk.node (by repeat' (first | exact WkL.nil | refine WkL.cons ?_ ?_ | exact Wk.refl _ | exact Wk.sla | exact Wk.sl | exact Wk.empty | exact Wk.nil | refine Wk.node ?_))) ?_)) ((c_Next (by omega) (by omega)).use1 h _) ?_
      rintro ⟨y, d⟩ ⟨h4, h5⟩
      try dsimp only at h4 h5
      simp -implicitDefEqProofs only [↓reduceIte, go_sem, h.got0, h.put0, h.get]
      have hy : IntKind.wrap .u64 y = y := by rw [wrap_u64]; omega
      obtain ⟨v, hv, v0, v1⟩ := shl_one (n := 7) (by omega) h4 (by omega)
      rw [hy, hv]
      exact ⟨h4, (v, d), ⟨v0, v1⟩, .here (.refl _) trivial⟩
    · simp -implicitDefEqProofs only [↓reduceIte, go_sem, h.got0, h.put0, h.get]
      exact ⟨(u, d), ⟨by rintro rfl; exact q5 rfl, hb⟩, .here (.refl _) trivial⟩

theorem c_Tag : DkC 23 (fun k => [.ptr k [] 0]) (fun x : By × Dk => x.1.length = 32) (·.2) (fun x => .arr 1 (x.1.map u8)) := by
  refine DkC.mk fun W k d h => ?_

  refine ACalls.enter Tryd.call23 Tryd.func23 rfl ?_
  refine AW.sound (unr nopl) mixed Tryd.func23 (by rw [Tryd.results23]) 100000 ?_
  simp -implicitDefEqProofs only [↓reduceIte, go_sem, Tryd.ntmps23, h.got0, h.put0, h.get]
  refine ACalls.useX (by repeat (first | exact WkL.nil | refine WkL.cons (Wk.refl _) ?_ | refine WkL.cons Wk.sla ?_ | refine WkL.cons Wk.sl ?_ | refine WkL.cons Wk.empty ?_ | refine WkL.cons Wk.nil ?_ | refine WkL.cons (Wk.node (by repeat' (first | exact WkL.nil | refine WkL.cons ?_ ?_ | exact Wk.refl _ | exact Wk.sla | exact Wk.sl | exact Wk.empty | exact Wk.nil | refine Wk.node ?_))) ?_)) ((c_Next (by omega) (by omega)).use0 h _) ?_
  rintro ⟨x, d1⟩ ⟨h2, h3⟩
  try dsimp only at h2 h3
  simp -implicitDefEqProofs only [↓reduceIte, go_sem, h.got0, h.put0, h.get]
  refine ACalls.useX (by repeat (first | exact WkL.nil | refine WkL.cons (Wk.refl _) ?_ | refine WkL.cons Wk.sla ?_ | refine WkL.cons Wk.sl ?_ | refine WkL.cons Wk.empty ?_ | refine WkL.cons Wk.nil ?_ | refine WkL.cons (Wk.node (by repeat' (first | exact WkL.nil | refine WkL.cons ?_ ?_ | exact Wk.refl _ | exact Wk.sla | exact Wk.sl | exact Wk.empty | exact Wk.nil | refine Wk.node ?_))) ?_)) ((c_Next (by omega) (by omega)).use h _ _) ?_
  rintro ⟨x2, d1⟩ ⟨h4, h5⟩
  try dsimp only at h4 h5
  simp -implicitDefEqProofs only [↓reduceIte, go_sem, h.got0, h.put0, h.get]
  refine ACalls.useX (by repeat (first | exact WkL.nil | refine WkL.cons (Wk.refl _) ?_ | refine WkL.cons Wk.sla ?_ | refine WkL.cons Wk.sl ?_ | refine WkL.cons Wk.empty ?_ | refine WkL.cons Wk.nil ?_ | refine WkL.cons (Wk.node (by repeat' (first | exact WkL.nil | refine WkL.cons ?_ ?_ | exact Wk.refl _ | exact Wk.sla | exact Wk.sl | exact Wk.empty | exact Wk.nil | refine Wk.node ?_))) ?_)) ((c_Next (by omega) (by omega)).use h _ _) ?_
  rintro ⟨x3, d1⟩ ⟨h6, h7⟩
  try dsimp only at h6 h7
  simp -implicitDefEqProofs only [↓reduceIte, go_sem, h.got0, h.put0, h.get]
  refine ACalls.useX (by repeat (first | exact WkL.nil | refine WkL.cons (Wk.refl _) ?_ | refine WkL.cons Wk.sla ?_ | refine WkL.cons Wk.sl ?_ | refine WkL.cons Wk.empty ?_ | refine WkL.cons Wk.nil ?_ | refine WkL.cons (Wk.node (by repeat' (first | exact WkL.nil | refine WkL.cons ?_ ?_ | exact Wk.refl _ | exact Wk.sla | exact Wk.sl | exact Wk.empty | exact Wk.nil | refine Wk.node ?_))) ?_)) ((c_Next (by omega) (by omega)).use h _ _) ?_
  rintro ⟨x4, d1⟩ ⟨h8, h9⟩
  try dsimp only at h8 h9
  simp -implicitDefEqProofs only [↓reduceIte, go_sem, h.got0, h.put0, h.get]
  exact ⟨(_, d1), by simp, .ext (.refl _) (lt_bytes _ _)⟩

theorem c_BytesT {n : Int} (h0 : 0 ≤ n) (h1 : n ≤ 1000000) {W : List Blk} {k : Nat} {d : Dk} (h : DkAt W k d) : ACalls E 39 [.ptr k [] 0, .v (.int .i64 n)] W (Some1 (fun x : By × Dk => x.1.length ≤ n.toNat) (fun x => DW W k x.2 ++ [.tok 1 x.1.length]) (fun x => .sla 1 (x.1.map u8) W.length)) := by
  refine ACalls.some (fun x => by simp [DW.len]) ?_
  have w1 : IntKind.wrap .i64 (n + 1) = n + 1 := by rw [wrap64 (by omega) (by omega)]

  refine ACalls.enter Tryd.call39 Tryd.func39 rfl ?_
  refine AW.sound nopl mixed Tryd.func39 (by rw [Tryd.results39]) 1000 ?_
  simp -implicitDefEqProofs only [↓reduceIte, go_sem, Tryd.ntmps39, h.got0, h.put0, h.get, w1]
  refine ACalls.useX (by repeat (first | exact WkL.nil | refine WkL.cons (Wk.refl _) ?_ | refine WkL.cons Wk.sla ?_ | refine WkL.cons Wk.sl ?_ | refine WkL.cons Wk.empty ?_ | refine WkL.cons Wk.nil ?_ | refine WkL.cons (Wk.node (by repeat' (first | exact WkL.nil | refine WkL.cons ?_ ?_ | exact Wk.refl _ | exact Wk.sla | exact Wk.sl | exact Wk.empty | exact Wk.nil | refine Wk.node ?_))) ?_)) ((c_Next (by omega) (by omega)) _ _ _ h) ?_
  rintro ⟨x, d⟩ ⟨h2, h3⟩
  try dsimp only at h2 h3
  simp -implicitDefEqProofs only [↓reduceIte, go_sem, h.got0, h.put0, h.get, w1]
  refine Lock.mk (AM.tokenNil (j := 5) 1 rfl ?_)
  simp only [go_sem]
  refine Lock.mk ?_
  refine AM.loopX (α := By × Dk × Int) (fun v => 0 ≤ v.2.2 ∧ v.1.length + v.2.2 ≤ n) (fun v => v.2.2.toNat) (fun v => DW W k v.2.1 ++ [.tok 1 v.1.length]) (fun v => [.ptr k [] 0, .v (.int .i64 n), .any, .any, .any, .sla 1 (v.1.map u8) W.length, .v (.int .i64 v.2.2), .any, .any, .any, .any, .any, .any, .any, .any, .any, .any, .any, .any, .any, .any, .any]) (([], d, x)) (by simp only [List.length_nil]; omega) (by repeat (first | exact WkL.nil | refine WkL.cons (Wk.refl _) ?_ | refine WkL.cons (Wk.any _) ?_ | refine WkL.cons Wk.sla ?_ | refine WkL.cons Wk.sl ?_ | refine WkL.cons Wk.empty ?_ | refine WkL.cons (Wk.int (by omega)) ?_ | refine WkL.cons (Wk.eq (by simp [u8])) ?_)) rfl ?_
  rintro ⟨b, d1, j⟩ ⟨h4, h5⟩ ih
  simp only at h4 h5 ih ⊢
  refine AW.sound nopl mixed Tryd.func39 (by rw [Tryd.results39]) 1000 ?_
  simp -implicitDefEqProofs only [↓reduceIte, go_sem, h.got0, h.put0, h.get, w1]
  refine brk.dec (fun q => ?_) (fun q => ?_)
  · simp -implicitDefEqProofs only [↓reduceIte, go_sem, h.got0, h.put0, h.get, w1]
    have w2 : IntKind.wrap .i64 (j - 1) = j - 1 := by rw [wrap64 (by omega) (by omega)]
    refine ACalls.useX (by repeat (first | exact WkL.nil | refine WkL.cons (Wk.refl _) ?_ | refine WkL.cons Wk.sla ?_ | refine WkL.cons Wk.sl ?_ | refine WkL.cons Wk.empty ?_ | refine WkL.cons Wk.nil ?_ | refine WkL.cons (Wk.node (by repeat' (first | exact WkL.nil | refine WkL.cons ?_ ?_ | exact Wk.refl _ | exact Wk.sla | exact Wk.sl | exact Wk.empty | exact Wk.nil | refine Wk.node ?_))) ?_)) ((c_Next (by omega) (by omega)).use h _ _) ?_
    rintro ⟨y, d2⟩ ⟨h6, h7⟩
    try dsimp only at h6 h7
    simp -implicitDefEqProofs only [↓reduceIte, go_sem, w2, h.got0, h.put0, h.get, w1]
    refine ⟨by omega, ?_⟩
    refine Lock.mk (ih ((b ++ [UInt8.ofInt y], d2, j - 1)) (⟨by simp only; omega, by simp; omega⟩) (by simp only; omega) _ _ (by repeat (first | exact WkL.nil | refine WkL.cons (Wk.refl _) ?_ | refine WkL.cons (Wk.any _) ?_ | refine WkL.cons Wk.sla ?_ | refine WkL.cons Wk.sl ?_ | refine WkL.cons Wk.empty ?_ | refine WkL.cons (Wk.int (by omega)) ?_ | refine WkL.cons (Wk.eq (by simp [u8])) ?_)) (by first | rfl | (simp; done)))
  · simp -implicitDefEqProofs only [↓reduceIte, go_sem, h.got0, h.put0, h.get, w1]
    exact ⟨(b, d1), by simp only; omega, .here (.refl _) ⟨by simp [DW.len], lt_bytes _ _⟩⟩
theorem c_Bytes {n : Int} (h0 : 0 ≤ n) (h1 : n ≤ 1000000) : DkC 39 (fun k => [.ptr k [] 0, .v (.int .i64 n)]) (fun x : By × Dk => x.1.length ≤ n.toNat) (·.2) (fun x => .sl 1 (x.1.map u8) false) := by
  refine DkC.mk fun W k d h => ?_
  refine (c_BytesT h0 h1 h).mono ?_
  rintro H r ⟨x, hx, rfl, rfl⟩
  exact ⟨x, hx, .ext .sla (lt_bytes _ _)⟩
theorem c_BytesU {n : Int} (h0 : 0 ≤ n) (h1 : n ≤ 1000000) {W : List Blk} {k : Nat} {d : Dk} (h : DkAt W k d) (d1 : Dk) (l : List Blk) : ACalls E 39 [.ptr k [] 0, .v (.int .i64 n)] (DW W k d1 ++ l) (Some1 (fun x : By × Dk => x.1.length ≤ n.toNat) (fun x => DW W k x.2 ++ (l ++ [.tok 1 x.1.length])) (fun x => .sla 1 (x.1.map u8) (W.length + l.length))) := by
  have := c_BytesT h0 h1 (h.at d1 l)
  simpa only [h.put, List.append_assoc, List.length_append, DW.len] using this
end Go.Mc
