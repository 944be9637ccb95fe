/- Contracts of functions of the program. -/
import Derived.Test.YtineemehkodlmaaDoorE1
set_option linter.all false
set_option maxRecDepth 100000
namespace Go.Mc
open Go.Proofs

def ePred (p : Pred) : AV := .node [1, 1, 1, 1, 1, 1] [.v (.int .i64 p.kind), .v (.int .u64 p.mask.toNat), .v (.int .i64 p.frm), .v (.int .i64 p.til), .v (.string (strS p.name)), .v (.int .i64 p.num)]
def eCav (c : Cav) : AV := .node [1, 6, 1, 1, 1] [.v (.bool c.third), ePred c.first, .v (.int .i64 c.party), .sl 1 (c.ticket.map u8) false, .sl 1 (c.box.map u8) false]
attribute [go_sem] ePred eCav
theorem ePred_lt (x : Pred) (n : Nat) : (ePred x).lt n := by simp [ePred, AV.lt, AV.ltL]
theorem eCav_lt (x : Cav) (n : Nat) : (eCav x).lt n := by simp [eCav, ePred, AV.lt, AV.ltL, lt_bytes]
@[go_sem] theorem ltL_cav (n : Nat) (l : List Cav) : AV.ltL n (l.map eCav) = True := eq_true (ltL_map eCav_lt n l)
@[go_sem] theorem ltL_pred (n : Nat) (l : List Pred) : AV.ltL n (l.map ePred) = True := eq_true (ltL_map ePred_lt n l)
theorem getD_cav {l : List Cav} {n : Nat} (h : n < l.length) : (l.map eCav).getD n .undef = eCav l[n] := by
  simp [List.getD_eq_getElem?_getD, h]

theorem c_New (L : List Int) (h : L.length ≤ 9223372036854775807) (H : List Blk) : ACalls E 9 [.sl 1 (L.map fun x => AV.v (.int .i64 x)) false] H (Gives (H ++ [.obj (eDk ⟨L, 0, by omega, h⟩)]) (.ptr H.length [] 0)) := by
  refine ACalls.tidy (by simp) (ACalls.enter Tryd.call9 Tryd.func9 rfl ?_)
  refine AW.sound nopl mixed Tryd.func9 (by rw [Tryd.results9]) 1000 ?_
  simp -implicitDefEqProofs only [↓reduceIte, go_sem, Tryd.ntmps9]
  exact .here (.refl _) (by simp [AV.lt])

theorem c_rides (n : Int) (H : List Blk) : ACalls E 48 [.v (.int .i64 n)] H (Gives H (eCav ⟨false, ⟨7, 0, 0, 0, [], n⟩, 0, [], []⟩)) := by
  refine ACalls.tidy (by simp) (ACalls.enter Tryd.call48 Tryd.func48 rfl ?_)
  refine AW.sound nopl mixed Tryd.func48 (by rw [Tryd.results48]) 1000 ?_
  simp -implicitDefEqProofs only [↓reduceIte, go_sem, Tryd.ntmps48]
  exact .ext (by repeat' (first | exact Wk.refl _ | exact Wk.sla | exact Wk.sl | exact Wk.empty | exact Wk.nil | exact WkL.nil | refine Wk.node ?_ | refine Wk.tup ?_ | refine WkL.cons ?_ ?_)) (by first | trivial | (simp only [go_sem]; done) | simp [AV.lt, AV.ltL, lt_bytes])

theorem okTime {x y : Int} (h1 : 0 ≤ x) (h2 : x ≤ 67108864) (h3 : 0 ≤ y) (h4 : y ≤ 67108864) : (⟨4, 0, if y < x then y else x, if y > x then y else x, [], 0⟩ : Pred).ok = true := by
  simp only [Pred.ok]
  rw [if_neg (by decide), if_pos trivial]
  simp only [Bool.and_eq_true, decide_eq_true_eq, and_true]
  split <;> split <;> omega
theorem c_Predicate (rides : Bool) : DkC 84 (fun k => [.ptr k [] 0, .v (.bool rides)]) (fun x : Pred × Dk => x.1.ok = true ∧ (rides = false → x.1.kind ≠ 7)) (·.2) (fun x => ePred x.1) := by
  refine DkC.mk fun W k d h => ?_

  refine ACalls.enter Tryd.call84 Tryd.func84 rfl ?_
  refine AW.sound pd84 mixed Tryd.func84 (by rw [Tryd.results84]) 1000 ?_
  simp -implicitDefEqProofs only [↓reduceIte, go_sem, Tryd.ntmps84, h.got0, h.put0, h.get]
  refine ACalls.useX (by repeat (first | exact WkL.nil | refine WkL.cons (Wk.refl _) ?_ | refine WkL.cons Wk.sla ?_ | refine WkL.cons Wk.sl ?_ | refine WkL.cons Wk.empty ?_ | refine WkL.cons Wk.nil ?_ | refine WkL.cons (Wk.node (by repeat' (first | exact WkL.nil | refine WkL.cons ?_ ?_ | exact Wk.refl _ | exact Wk.sla | exact Wk.sl | exact Wk.empty | exact Wk.nil | refine Wk.node ?_))) ?_)) ((c_Range (by omega) (by omega) (by omega) (by omega)).use0 h _) ?_
  rintro ⟨x, d⟩ ⟨h2, h3⟩
  try dsimp only at h2 h3
  simp -implicitDefEqProofs only [↓reduceIte, go_sem, h.got0, h.put0, h.get]
  obtain rfl | rfl | rfl | rfl | rfl | rfl | rfl : x = 1 ∨ x = 2 ∨ x = 3 ∨ x = 4 ∨ x = 5 ∨ x = 6 ∨ x = 7 := by omega
  · simp -implicitDefEqProofs only [↓reduceIte, go_sem, h.got0, h.put0, h.get]
    refine ACalls.useX (by repeat (first | exact WkL.nil | refine WkL.cons (Wk.refl _) ?_ | refine WkL.cons Wk.sla ?_ | refine WkL.cons Wk.sl ?_ | refine WkL.cons Wk.empty ?_ | refine WkL.cons Wk.nil ?_ | refine WkL.cons (Wk.node (by repeat' (first | exact WkL.nil | refine WkL.cons ?_ ?_ | exact Wk.refl _ | exact Wk.sla | exact Wk.sl | exact Wk.empty | exact Wk.nil | refine Wk.node ?_))) ?_)) ((c_mask (n := 64) (by simp)).use h _ _) ?_
    rintro ⟨m, d⟩ ⟨h4, h5⟩
    try dsimp only at h4 h5
    simp -implicitDefEqProofs only [↓reduceIte, go_sem, h.got0, h.put0, h.get]
    exact ⟨(⟨1, m, 0, 0, [], 0⟩, d), ⟨by simp [Pred.ok, h4, mBits, h5], fun _ => by simp⟩, .ext (by repeat' (first | exact Wk.refl _ | exact Wk.sla | exact Wk.sl | exact Wk.empty | exact Wk.nil | exact WkL.nil | refine Wk.node ?_ | refine Wk.tup ?_ | refine WkL.cons ?_ ?_)) (by first | trivial | (simp only [go_sem]; done) | simp [AV.lt, AV.ltL, lt_bytes])⟩
  · simp -implicitDefEqProofs only [↓reduceIte, go_sem, h.got0, h.put0, h.get]
    refine ACalls.useX (by repeat (first | exact WkL.nil | refine WkL.cons (Wk.refl _) ?_ | refine WkL.cons Wk.sla ?_ | refine WkL.cons Wk.sl ?_ | refine WkL.cons Wk.empty ?_ | refine WkL.cons Wk.nil ?_ | refine WkL.cons (Wk.node (by repeat' (first | exact WkL.nil | refine WkL.cons ?_ ?_ | exact Wk.refl _ | exact Wk.sla | exact Wk.sl | exact Wk.empty | exact Wk.nil | refine Wk.node ?_))) ?_)) ((c_mask (n := 32) (by simp)).use h _ _) ?_
    rintro ⟨m, d⟩ ⟨h4, h5⟩
    try dsimp only at h4 h5
    simp -implicitDefEqProofs only [↓reduceIte, go_sem, h.got0, h.put0, h.get]
    exact ⟨(⟨2, m, 0, 0, [], 0⟩, d), ⟨by simp [Pred.ok, h4, mBits, h5], fun _ => by simp⟩, .ext (by repeat' (first | exact Wk.refl _ | exact Wk.sla | exact Wk.sl | exact Wk.empty | exact Wk.nil | exact WkL.nil | refine Wk.node ?_ | refine Wk.tup ?_ | refine WkL.cons ?_ ?_)) (by first | trivial | (simp only [go_sem]; done) | simp [AV.lt, AV.ltL, lt_bytes])⟩
  · simp -implicitDefEqProofs only [↓reduceIte, go_sem, h.got0, h.put0, h.get]
    refine ACalls.useX (by repeat (first | exact WkL.nil | refine WkL.cons (Wk.refl _) ?_ | refine WkL.cons Wk.sla ?_ | refine WkL.cons Wk.sl ?_ | refine WkL.cons Wk.empty ?_ | refine WkL.cons Wk.nil ?_ | refine WkL.cons (Wk.node (by repeat' (first | exact WkL.nil | refine WkL.cons ?_ ?_ | exact Wk.refl _ | exact Wk.sla | exact Wk.sl | exact Wk.empty | exact Wk.nil | refine Wk.node ?_))) ?_)) ((c_mask (n := 7) (by simp)).use h _ _) ?_
    rintro ⟨m, d⟩ ⟨h4, h5⟩
    try dsimp only at h4 h5
    simp -implicitDefEqProofs only [↓reduceIte, go_sem, h.got0, h.put0, h.get]
    exact ⟨(⟨3, m, 0, 0, [], 0⟩, d), ⟨by simp [Pred.ok, h4, mBits, h5], fun _ => by simp⟩, .ext (by repeat' (first | exact Wk.refl _ | exact Wk.sla | exact Wk.sl | exact Wk.empty | exact Wk.nil | exact WkL.nil | refine Wk.node ?_ | refine Wk.tup ?_ | refine WkL.cons ?_ ?_)) (by first | trivial | (simp only [go_sem]; done) | simp [AV.lt, AV.ltL, lt_bytes])⟩
  · simp -implicitDefEqProofs only [↓reduceIte, go_sem, h.got0, h.put0, h.get]
    try refine ⟨Lock.ok (by decide +kernel), ?_⟩
    refine ACalls.useX (by repeat (first | exact WkL.nil | refine WkL.cons (Wk.refl _) ?_ | refine WkL.cons Wk.sla ?_ | refine WkL.cons Wk.sl ?_ | refine WkL.cons Wk.empty ?_ | refine WkL.cons Wk.nil ?_ | refine WkL.cons (Wk.node (by repeat' (first | exact WkL.nil | refine WkL.cons ?_ ?_ | exact Wk.refl _ | exact Wk.sla | exact Wk.sl | exact Wk.empty | exact Wk.nil | refine Wk.node ?_))) ?_)) (c_Minute.use h _ _) ?_
    rintro ⟨x, d⟩ ⟨h2, h3⟩
    try dsimp only at h2 h3
    simp -implicitDefEqProofs only [↓reduceIte, go_sem, h.got0, h.put0, h.get]
    refine ACalls.useX (by repeat (first | exact WkL.nil | refine WkL.cons (Wk.refl _) ?_ | refine WkL.cons Wk.sla ?_ | refine WkL.cons Wk.sl ?_ | refine WkL.cons Wk.empty ?_ | refine WkL.cons Wk.nil ?_ | refine WkL.cons (Wk.node (by repeat' (first | exact WkL.nil | refine WkL.cons ?_ ?_ | exact Wk.refl _ | exact Wk.sla | exact Wk.sl | exact Wk.empty | exact Wk.nil | refine Wk.node ?_))) ?_)) (c_Minute.use h _ _) ?_
    rintro ⟨y, d⟩ ⟨h4, h5⟩
    try dsimp only at h4 h5
    simp -implicitDefEqProofs only [↓reduceIte, go_sem, h.got0, h.put0, h.get]
    exact ⟨(⟨4, 0, if y < x then y else x, if y > x then y else x, [], 0⟩, d), ⟨okTime h2 h3 h4 h5, fun _ => by first | trivial | simp⟩, .ext (by repeat' (first | exact Wk.refl _ | exact Wk.sla | exact Wk.sl | exact Wk.empty | exact Wk.nil | exact WkL.nil | refine Wk.node ?_ | refine Wk.tup ?_ | refine WkL.cons ?_ ?_)) (by first | trivial | (simp only [go_sem]; done) | simp [AV.lt, AV.ltL, lt_bytes])⟩
  · simp -implicitDefEqProofs only [↓reduceIte, go_sem, h.got0, h.put0, h.get]
    try refine ⟨Lock.ok (by decide +kernel), ?_⟩
    refine ACalls.useX (by repeat (first | exact WkL.nil | refine WkL.cons (Wk.refl _) ?_ | refine WkL.cons Wk.sla ?_ | refine WkL.cons Wk.sl ?_ | refine WkL.cons Wk.empty ?_ | refine WkL.cons Wk.nil ?_ | refine WkL.cons (Wk.node (by repeat' (first | exact WkL.nil | refine WkL.cons ?_ ?_ | exact Wk.refl _ | exact Wk.sla | exact Wk.sl | exact Wk.empty | exact Wk.nil | refine Wk.node ?_))) ?_)) ((c_Next (by omega) (by omega)).use h _ _) ?_
    rintro ⟨x, d⟩ ⟨h2, h3⟩
    try dsimp only at h2 h3
    simp -implicitDefEqProofs only [↓reduceIte, go_sem, h.got0, h.put0, h.get]
    refine ACalls.useX (by repeat (first | exact WkL.nil | refine WkL.cons (Wk.refl _) ?_ | refine WkL.cons Wk.sla ?_ | refine WkL.cons Wk.sl ?_ | refine WkL.cons Wk.empty ?_ | refine WkL.cons Wk.nil ?_ | refine WkL.cons (Wk.node (by repeat' (first | exact WkL.nil | refine WkL.cons ?_ ?_ | exact Wk.refl _ | exact Wk.sla | exact Wk.sl | exact Wk.empty | exact Wk.nil | refine Wk.node ?_))) ?_)) ((c_Next (by omega) (by omega)).use h _ _) ?_
    rintro ⟨y, d⟩ ⟨h4, h5⟩
    try dsimp only at h4 h5
    simp -implicitDefEqProofs only [↓reduceIte, go_sem, h.got0, h.put0, h.get]
    refine ACalls.useX (by repeat (first | exact WkL.nil | refine WkL.cons (Wk.refl _) ?_ | refine WkL.cons Wk.sla ?_ | refine WkL.cons Wk.sl ?_ | refine WkL.cons Wk.empty ?_ | refine WkL.cons Wk.nil ?_ | refine WkL.cons (Wk.node (by repeat' (first | exact WkL.nil | refine WkL.cons ?_ ?_ | exact Wk.refl _ | exact Wk.sla | exact Wk.sl | exact Wk.empty | exact Wk.nil | refine Wk.node ?_))) ?_)) ((c_Next (by omega) (by omega)).use h _ _) ?_
    rintro ⟨z, d⟩ ⟨h6, h7⟩
    try dsimp only at h6 h7
    simp -implicitDefEqProofs only [↓reduceIte, go_sem, h.got0, h.put0, h.get]
    refine brk.beq (fun q => ?_) (fun q => ?_)
    · simp -implicitDefEqProofs only [↓reduceIte, go_sem, h.got0, h.put0, h.get]
      try refine ⟨Lock.ok (by decide +kernel), ?_⟩
      refine ACalls.useX (by repeat (first | exact WkL.nil | refine WkL.cons (Wk.refl _) ?_ | refine WkL.cons Wk.sla ?_ | refine WkL.cons Wk.sl ?_ | refine WkL.cons Wk.empty ?_ | refine WkL.cons Wk.nil ?_ | refine WkL.cons (Wk.node (by repeat' (first | exact WkL.nil | refine WkL.cons ?_ ?_ | exact Wk.refl _ | exact Wk.sla | exact Wk.sl | exact Wk.empty | exact Wk.nil | refine Wk.node ?_))) ?_)) ((c_Next (by omega) (by omega)).use h _ _) ?_
      rintro ⟨v, d⟩ ⟨h8, h9⟩
      try dsimp only at h8 h9
      simp -implicitDefEqProofs only [↓reduceIte, go_sem, h.got0, h.put0, h.get]
      rw [wrap64 (n := x + v) (by omega) (by omega), wrap64 (n := x + v + 1440) (by omega) (by omega), wrap64 (by omega) (by omega)]
      have g1 := Int.tmod_nonneg 1440 (show 0 ≤ x + v + 1440 - 1 by omega)
      have g2 := Int.tmod_lt_of_pos (x + v + 1440 - 1) (show (0 : Int) < 1440 by omega)
      exact ⟨(⟨5, 0, x, (x + v + 1440 - 1).tmod 1440, [], 0⟩, d), ⟨by simp [Pred.ok, h2, h3, g1, g2], fun _ => by simp⟩, .ext (by repeat' (first | exact Wk.refl _ | exact Wk.sla | exact Wk.sl | exact Wk.empty | exact Wk.nil | exact WkL.nil | refine Wk.node ?_ | refine Wk.tup ?_ | refine WkL.cons ?_ ?_)) (by first | trivial | (simp only [go_sem]; done) | simp [AV.lt, AV.ltL, lt_bytes])⟩
    · simp -implicitDefEqProofs only [↓reduceIte, go_sem, h.got0, h.put0, h.get]
      exact ⟨(⟨5, 0, x, y, [], 0⟩, d), ⟨by simp [Pred.ok, h2, h3, h4, h5], fun _ => by simp⟩, .ext (by repeat' (first | exact Wk.refl _ | exact Wk.sla | exact Wk.sl | exact Wk.empty | exact Wk.nil | exact WkL.nil | refine Wk.node ?_ | refine Wk.tup ?_ | refine WkL.cons ?_ ?_)) (by first | trivial | (simp only [go_sem]; done) | simp [AV.lt, AV.ltL, lt_bytes])⟩
  · simp -implicitDefEqProofs only [↓reduceIte, go_sem, h.got0, h.put0, h.get]
    try refine ⟨Lock.ok (by decide +kernel), ?_⟩
    refine ACalls.useX (by repeat (first | exact WkL.nil | refine WkL.cons (Wk.refl _) ?_ | refine WkL.cons Wk.sla ?_ | refine WkL.cons Wk.sl ?_ | refine WkL.cons Wk.empty ?_ | refine WkL.cons Wk.nil ?_ | refine WkL.cons (Wk.node (by repeat' (first | exact WkL.nil | refine WkL.cons ?_ ?_ | exact Wk.refl _ | exact Wk.sla | exact Wk.sl | exact Wk.empty | exact Wk.nil | refine Wk.node ?_))) ?_)) (c_Name.use h _ _) ?_
    rintro ⟨x, d⟩ h2
    try dsimp only at h2
    simp -implicitDefEqProofs only [↓reduceIte, go_sem, h.got0, h.put0, h.get]
    exact ⟨(⟨6, 0, 0, 0, x, 0⟩, d), ⟨by simp [Pred.ok, h2], fun _ => by simp⟩, .ext (by repeat' (first | exact Wk.refl _ | exact Wk.sla | exact Wk.sl | exact Wk.empty | exact Wk.nil | exact WkL.nil | refine Wk.node ?_ | refine Wk.tup ?_ | refine WkL.cons ?_ ?_)) (by first | trivial | (simp only [go_sem]; done) | simp [AV.lt, AV.ltL, lt_bytes])⟩
  · simp -implicitDefEqProofs only [↓reduceIte, go_sem, h.got0, h.put0, h.get]
    cases rides
    · simp -implicitDefEqProofs only [↓reduceIte, go_sem, h.got0, h.put0, h.get]
      try refine ⟨Lock.ok (by decide +kernel), ?_⟩
      refine ACalls.useX (by repeat (first | exact WkL.nil | refine WkL.cons (Wk.refl _) ?_ | refine WkL.cons Wk.sla ?_ | refine WkL.cons Wk.sl ?_ | refine WkL.cons Wk.empty ?_ | refine WkL.cons Wk.nil ?_ | refine WkL.cons (Wk.node (by repeat' (first | exact WkL.nil | refine WkL.cons ?_ ?_ | exact Wk.refl _ | exact Wk.sla | exact Wk.sl | exact Wk.empty | exact Wk.nil | refine Wk.node ?_))) ?_)) (c_Minute.use h _ _) ?_
      rintro ⟨x, d⟩ ⟨h2, h3⟩
      try dsimp only at h2 h3
      simp -implicitDefEqProofs only [↓reduceIte, go_sem, h.got0, h.put0, h.get]
      refine ACalls.useX (by repeat (first | exact WkL.nil | refine WkL.cons (Wk.refl _) ?_ | refine WkL.cons Wk.sla ?_ | refine WkL.cons Wk.sl ?_ | refine WkL.cons Wk.empty ?_ | refine WkL.cons Wk.nil ?_ | refine WkL.cons (Wk.node (by repeat' (first | exact WkL.nil | refine WkL.cons ?_ ?_ | exact Wk.refl _ | exact Wk.sla | exact Wk.sl | exact Wk.empty | exact Wk.nil | refine Wk.node ?_))) ?_)) (c_Minute.use h _ _) ?_
      rintro ⟨y, d⟩ ⟨h4, h5⟩
      try dsimp only at h4 h5
      simp -implicitDefEqProofs only [↓reduceIte, go_sem, h.got0, h.put0, h.get]
      exact ⟨(⟨4, 0, if y < x then y else x, if y > x then y else x, [], 0⟩, d), ⟨okTime h2 h3 h4 h5, by simp⟩, .ext (by repeat' (first | exact Wk.refl _ | exact Wk.sla | exact Wk.sl | exact Wk.empty | exact Wk.nil | exact WkL.nil | refine Wk.node ?_ | refine Wk.tup ?_ | refine WkL.cons ?_ ?_)) (by first | trivial | (simp only [go_sem]; done) | simp [AV.lt, AV.ltL, lt_bytes])⟩
    · simp -implicitDefEqProofs only [↓reduceIte, go_sem, h.got0, h.put0, h.get]
      try refine ⟨Lock.ok (by decide +kernel), ?_⟩
      refine ACalls.useX (by repeat (first | exact WkL.nil | refine WkL.cons (Wk.refl _) ?_ | refine WkL.cons Wk.sla ?_ | refine WkL.cons Wk.sl ?_ | refine WkL.cons Wk.empty ?_ | refine WkL.cons Wk.nil ?_ | refine WkL.cons (Wk.node (by repeat' (first | exact WkL.nil | refine WkL.cons ?_ ?_ | exact Wk.refl _ | exact Wk.sla | exact Wk.sl | exact Wk.empty | exact Wk.nil | refine Wk.node ?_))) ?_)) ((c_Upto (by omega) (by omega)).use h _ _) ?_
      rintro ⟨x, d⟩ ⟨h2, h3⟩
      try dsimp only at h2 h3
      simp -implicitDefEqProofs only [↓reduceIte, go_sem, h.got0, h.put0, h.get]
      exact ⟨(⟨7, 0, 0, 0, [], x⟩, d), ⟨by simp [Pred.ok, h2, h3], fun q => q.elim⟩, .ext (by repeat' (first | exact Wk.refl _ | exact Wk.sla | exact Wk.sl | exact Wk.empty | exact Wk.nil | exact WkL.nil | refine Wk.node ?_ | refine Wk.tup ?_ | refine WkL.cons ?_ ?_)) (by first | trivial | (simp only [go_sem]; done) | simp [AV.lt, AV.ltL, lt_bytes])⟩

theorem c_Caveat : DkC 53 (fun k => [.ptr k [] 0]) (fun x : Cav × Dk => x.1.ok = true) (·.2) (fun x => eCav x.1) := by
  refine DkC.mk fun W k d h => ?_

  refine ACalls.enter Tryd.call53 Tryd.func53 rfl ?_
  refine AW.sound nopl mixed Tryd.func53 (by rw [Tryd.results53]) 1000 ?_
  simp -implicitDefEqProofs only [↓reduceIte, go_sem, Tryd.ntmps53, h.got0, h.put0, h.get]
  refine ACalls.useX (by repeat (first | exact WkL.nil | refine WkL.cons (Wk.refl _) ?_ | refine WkL.cons Wk.sla ?_ | refine WkL.cons Wk.sl ?_ | refine WkL.cons Wk.empty ?_ | refine WkL.cons Wk.nil ?_ | refine WkL.cons (Wk.node (by repeat' (first | exact WkL.nil | refine WkL.cons ?_ ?_ | exact Wk.refl _ | exact Wk.sla | exact Wk.sl | exact Wk.empty | exact Wk.nil | refine Wk.node ?_))) ?_)) ((c_Next (by omega) (by omega)).use0 h _) ?_
  rintro ⟨x, d⟩ ⟨h2, h3⟩
  try dsimp only at h2 h3
  simp -implicitDefEqProofs only [↓reduceIte, go_sem, h.got0, h.put0, h.get]
  refine brk.dec (fun q => ?_) (fun q => ?_)
  · simp -implicitDefEqProofs only [↓reduceIte, go_sem, h.got0, h.put0, h.get]
    refine ACalls.useX (by repeat (first | exact WkL.nil | refine WkL.cons (Wk.refl _) ?_ | refine WkL.cons Wk.sla ?_ | refine WkL.cons Wk.sl ?_ | refine WkL.cons Wk.empty ?_ | refine WkL.cons Wk.nil ?_ | refine WkL.cons (Wk.node (by repeat' (first | exact WkL.nil | refine WkL.cons ?_ ?_ | exact Wk.refl _ | exact Wk.sla | exact Wk.sl | exact Wk.empty | exact Wk.nil | refine Wk.node ?_))) ?_)) ((c_Predicate true).use h _ _) ?_
    rintro ⟨x, d⟩ ⟨h4, h5⟩
    try dsimp only at h4 h5
    simp -implicitDefEqProofs only [↓reduceIte, go_sem, h.got0, h.put0, h.get]
    exact ⟨(⟨false, x, 0, [], []⟩, d), by simp [Cav.ok, h4], .ext (by repeat' (first | exact Wk.refl _ | exact Wk.sla | exact Wk.sl | exact Wk.empty | exact Wk.nil | exact WkL.nil | refine Wk.node ?_ | refine Wk.tup ?_ | refine WkL.cons ?_ ?_)) (by first | trivial | (simp only [go_sem]; done) | simp [AV.lt, AV.ltL, lt_bytes])⟩
  · simp -implicitDefEqProofs only [↓reduceIte, go_sem, h.got0, h.put0, h.get]
    try refine ⟨Lock.ok (by decide +kernel), ?_⟩
    refine ACalls.useX (by repeat (first | exact WkL.nil | refine WkL.cons (Wk.refl _) ?_ | refine WkL.cons Wk.sla ?_ | refine WkL.cons Wk.sl ?_ | refine WkL.cons Wk.empty ?_ | refine WkL.cons Wk.nil ?_ | refine WkL.cons (Wk.node (by repeat' (first | exact WkL.nil | refine WkL.cons ?_ ?_ | exact Wk.refl _ | exact Wk.sla | exact Wk.sl | exact Wk.empty | exact Wk.nil | refine Wk.node ?_))) ?_)) ((c_Next (by omega) (by omega)).use h _ _) ?_
    rintro ⟨x, d⟩ ⟨h2, h3⟩
    try dsimp only at h2 h3
    simp -implicitDefEqProofs only [↓reduceIte, go_sem, h.got0, h.put0, h.get]
    refine ACalls.useX (by repeat (first | exact WkL.nil | refine WkL.cons (Wk.refl _) ?_ | refine WkL.cons Wk.sla ?_ | refine WkL.cons Wk.sl ?_ | refine WkL.cons Wk.empty ?_ | refine WkL.cons Wk.nil ?_ | refine WkL.cons (Wk.node (by repeat' (first | exact WkL.nil | refine WkL.cons ?_ ?_ | exact Wk.refl _ | exact Wk.sla | exact Wk.sl | exact Wk.empty | exact Wk.nil | refine Wk.node ?_))) ?_)) (c_BytesU (by omega) (by omega) h _ _) ?_
    rintro ⟨y, d⟩ h4
    try dsimp only at h4
    simp -implicitDefEqProofs only [↓reduceIte, go_sem, h.got0, h.put0, h.get]
    refine ⟨by have := h4; simp only [Int.reduceToNat] at this; omega, ?_⟩
    refine ACalls.useX (by repeat (first | exact WkL.nil | refine WkL.cons (Wk.refl _) ?_ | refine WkL.cons Wk.sla ?_ | refine WkL.cons Wk.sl ?_ | refine WkL.cons Wk.empty ?_ | refine WkL.cons Wk.nil ?_ | refine WkL.cons (Wk.node (by repeat' (first | exact WkL.nil | refine WkL.cons ?_ ?_ | exact Wk.refl _ | exact Wk.sla | exact Wk.sl | exact Wk.empty | exact Wk.nil | refine Wk.node ?_))) ?_)) (c_BytesU (by omega) (by omega) h _ _) ?_
    rintro ⟨z, d⟩ h6
    try dsimp only at h6
    simp -implicitDefEqProofs only [↓reduceIte, go_sem, h.got0, h.put0, h.get]
    refine ⟨by have := h6; simp only [Int.reduceToNat] at this; omega, ?_⟩
    refine ⟨(⟨true, Pred.zero, x, y ++ [UInt8.ofInt 1], z ++ [UInt8.ofInt 2]⟩, d), ?_, .ext (by repeat' (first | exact Wk.refl _ | exact Wk.sla | exact Wk.sl | exact Wk.empty | exact Wk.nil | exact WkL.nil | refine Wk.node ?_ | refine Wk.tup ?_ | refine WkL.cons ?_ ?_)) (by first | trivial | (simp only [go_sem]; done) | simp [AV.lt, AV.ltL, lt_bytes])⟩
    have g1 := h4
    have g2 := h6
    simp only [Int.reduceToNat] at g1 g2
    simp [Cav.ok, h2]
    omega
end Go.Mc
