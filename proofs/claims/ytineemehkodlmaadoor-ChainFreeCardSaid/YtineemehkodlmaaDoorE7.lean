/- Contracts of functions of the program. -/
import Derived.Test.YtineemehkodlmaaDoorE6
set_option linter.all false
set_option maxRecDepth 100000
namespace Go.Mc
open Go.Proofs

def eMint (s : Int) (l : List Cav) : AV := .node [1, 1, 1] [.v (.int .i64 s), .v (.int .i64 0), .sl 10 (l.map eCav) false]
theorem c_grown : DkC 19 (fun k => [.ptr k [] 0]) (fun x : Int × List Cav × Dk => 1 ≤ x.1 ∧ x.1 ≤ 3 ∧ x.2.1.length ≤ 4 ∧ ∀ c ∈ x.2.1, c.ok = true) (·.2.2) (fun x => eMint x.1 x.2.1) := by
  refine DkC.mk fun W k d h => ?_
  have hk := h.lt

  refine ACalls.enter Tryd.call19 Tryd.func19 rfl ?_
  refine AW.sound nopl mixed Tryd.func19 (by rw [Tryd.results19]) 1000 ?_
  simp -implicitDefEqProofs only [↓reduceIte, go_sem, Tryd.ntmps19, h.got0, h.put0, h.get]
  refine ACalls.useX (by repeat (first | exact WkL.nil | refine WkL.cons (Wk.refl _) ?_ | refine WkL.cons Wk.sla ?_ | refine WkL.cons Wk.sl ?_ | refine WkL.cons Wk.empty ?_ | refine WkL.cons Wk.nil ?_ | refine WkL.cons (Wk.node (by repeat' (first | exact WkL.nil | refine WkL.cons ?_ ?_ | exact Wk.refl _ | exact Wk.sla | exact Wk.sl | exact Wk.empty | exact Wk.nil | refine Wk.node ?_))) ?_)) ((c_Range (by omega) (by omega) (by omega) (by omega)).use0 h _) ?_
  rintro ⟨s, d⟩ ⟨h1, h2⟩
  try dsimp only at h1 h2
  simp -implicitDefEqProofs only [↓reduceIte, go_sem, h.got0, h.put0, h.get]
  refine ACalls.useX (by repeat (first | exact WkL.nil | refine WkL.cons (Wk.refl _) ?_ | refine WkL.cons Wk.sla ?_ | refine WkL.cons Wk.sl ?_ | refine WkL.cons Wk.empty ?_ | refine WkL.cons Wk.nil ?_ | refine WkL.cons (Wk.node (by repeat' (first | exact WkL.nil | refine WkL.cons ?_ ?_ | exact Wk.refl _ | exact Wk.sla | exact Wk.sl | exact Wk.empty | exact Wk.nil | refine Wk.node ?_))) ?_)) ((c_Next (by omega) (by omega)).use h _ _) ?_
  rintro ⟨x, d⟩ ⟨h3, h4⟩
  try dsimp only at h3 h4
  simp -implicitDefEqProofs only [↓reduceIte, go_sem, h.got0, h.put0, h.get]
  refine Lock.mk (AM.objTok (j := 3) (n := W.length + 1) (i := 2) (sz := 10) (vs := []) (ws := [1, 1, 1]) (l := [.v (.int .i64 s), .v (.int .i64 0), .sl 10 [] true]) rfl (by simp only [go_sem]) rfl ?_)
  simp only [go_sem]
  refine Lock.mk ?_
  refine AM.loopX (α := List Cav × Dk × Int) (fun v => 0 ≤ v.2.2 ∧ v.1.length + v.2.2 ≤ 4 ∧ ∀ c ∈ v.1, c.ok = true) (fun v => v.2.2.toNat) (fun v => DW W k v.2.1 ++ [.obj (.node [1, 1, 1] [.v (.int .i64 0), .v (.int .i64 0), .sl 10 [] true]), .dead, .tok 10 v.1.length, .obj (.node [1, 1, 1] [.v (.int .i64 s), .v (.int .i64 0), .sla 10 (v.1.map eCav) (W.length + 2)])]) (fun v => [.ptr k [] 0, .any, .ptr W.length [] 0, .ptr (W.length + 3) [] 0, .v (.int .i64 v.2.2), .any, .any, .any, .any, .any, .any, .any, .any, .any, .any, .any, .any, .any, .any, .any, .any, .any, .any, .any, .any, .any, .any, .any, .any, .any]) (([], d, x)) (⟨h3, by simp only [List.length_nil]; omega, by simp⟩) (by repeat (first | exact WkL.nil | refine WkL.cons (Wk.refl _) ?_ | refine WkL.cons (Wk.any _) ?_ | refine WkL.cons Wk.sla ?_ | refine WkL.cons Wk.sl ?_ | refine WkL.cons Wk.empty ?_ | refine WkL.cons (Wk.int (by omega)) ?_ | refine WkL.cons (Wk.eq (by simp [u8])) ?_)) rfl ?_
  rintro ⟨l, d1, j⟩ ⟨h5, h6, h7⟩ ih
  simp only at h5 h6 h7 ih ⊢
  refine AW.sound nopl mixed Tryd.func19 (by rw [Tryd.results19]) 1000 ?_
  simp -implicitDefEqProofs only [↓reduceIte, go_sem, h.got0, h.put0, h.get]
  refine brk.dec (fun q => ?_) (fun q => ?_)
  · have w2 : IntKind.wrap .i64 (j - 1) = j - 1 := by rw [wrap64 (by omega) (by omega)]
    simp -implicitDefEqProofs only [↓reduceIte, go_sem, h.got0, h.put0, h.get]
    refine ACalls.useX (by repeat (first | exact WkL.nil | refine WkL.cons (Wk.refl _) ?_ | refine WkL.cons Wk.sla ?_ | refine WkL.cons Wk.sl ?_ | refine WkL.cons Wk.empty ?_ | refine WkL.cons Wk.nil ?_ | refine WkL.cons (Wk.node (by repeat' (first | exact WkL.nil | refine WkL.cons ?_ ?_ | exact Wk.refl _ | exact Wk.sla | exact Wk.sl | exact Wk.empty | exact Wk.nil | refine Wk.node ?_))) ?_)) ((c_Next (by omega) (by omega)).use h _ _) ?_
    rintro ⟨y, d2⟩ ⟨h8, h9⟩
    try dsimp only at h8 h9
    simp -implicitDefEqProofs only [↓reduceIte, go_sem, w2, h.got0, h.put0, h.get]
    refine ACalls.useW (by repeat (first | exact WkL.nil | refine WkL.cons (Wk.refl _) ?_ | refine WkL.cons Wk.sla ?_ | refine WkL.cons Wk.sl ?_ | refine WkL.cons Wk.empty ?_ | refine WkL.cons Wk.nil ?_ | refine WkL.cons (Wk.node (by repeat' (first | exact WkL.nil | refine WkL.cons ?_ ?_ | exact Wk.refl _ | exact Wk.sla | exact Wk.sl | exact Wk.empty | exact Wk.nil | refine Wk.node ?_))) ?_)) (c_rides y _) ?_
    simp -implicitDefEqProofs only [↓reduceIte, go_sem, h.got0, h.put0, h.get]
    refine ACalls.useX (by repeat (first | exact WkL.nil | refine WkL.cons (Wk.refl _) ?_ | refine WkL.cons Wk.sla ?_ | refine WkL.cons Wk.sl ?_ | refine WkL.cons Wk.empty ?_ | refine WkL.cons Wk.nil ?_ | refine WkL.cons (Wk.node (by repeat' (first | exact WkL.nil | refine WkL.cons ?_ ?_ | exact Wk.refl _ | exact Wk.sla | exact Wk.sl | exact Wk.empty | exact Wk.nil | refine Wk.node ?_))) ?_)) ((c_Next (by omega) (by omega)).use h _ _) ?_
    rintro ⟨z, d3⟩ ⟨h10, h11⟩
    try dsimp only at h10 h11
    simp -implicitDefEqProofs only [↓reduceIte, go_sem, w2, h.got0, h.put0, h.get]
    refine brk.beq (fun q1 => ?_) (fun q1 => ?_)
    · simp -implicitDefEqProofs only [↓reduceIte, go_sem, w2, h.got0, h.put0, h.get]
      refine ACalls.useX (by repeat (first | exact WkL.nil | refine WkL.cons (Wk.refl _) ?_ | refine WkL.cons Wk.sla ?_ | refine WkL.cons Wk.sl ?_ | refine WkL.cons Wk.empty ?_ | refine WkL.cons Wk.nil ?_ | refine WkL.cons (Wk.node (by repeat' (first | exact WkL.nil | refine WkL.cons ?_ ?_ | exact Wk.refl _ | exact Wk.sla | exact Wk.sl | exact Wk.empty | exact Wk.nil | refine Wk.node ?_))) ?_)) (c_Caveat.use h _ _) ?_
      rintro ⟨c, d4⟩ h12
      try dsimp only at h12
      simp -implicitDefEqProofs only [↓reduceIte, go_sem, w2, h.got0, h.put0, h.get]
      have ac : l.map eCav ++ [eCav c] = (l ++ [c]).map eCav := by simp
      simp only [go_sem] at ac
      refine ⟨by omega, by rw [ac]; simp only [go_sem], ?_⟩
      refine Lock.mk (AM.drop (X := [.obj (eCav c)]) ?_ ?_ ?_ (by repeat (first | exact WkL.nil | refine WkL.cons (Wk.refl _) ?_ | refine WkL.cons (Wk.any _) ?_ | refine WkL.cons Wk.sla ?_ | refine WkL.cons Wk.sl ?_ | refine WkL.cons Wk.empty ?_ | refine WkL.cons (Wk.int (by omega)) ?_ | refine WkL.cons (Wk.eq (by simp [u8, eCav, ePred])) ?_)) (ih ((l ++ [c], d4, j - 1)) (⟨by simp only; omega, by simp only [List.length_append, List.length_singleton]; omega, by intro c' hc'; simp only [List.mem_append, List.mem_singleton] at hc'; rcases hc' with hc' | rfl <;> simp_all⟩) (by simp only; omega) _ _ (WkL.refl _) rfl))
      · first | rfl | (simp [eCav, ePred]; done)
      · first | exact Nat.le_refl _ | (simp; done) | (simp [DW.len, MkPut.len]; try omega)
      · first | (simp only [go_sem]; done) | (simp [AV.lt, AV.ltL, lt_bytes, ltL_cav, ltL_pred]; done) | (simp [AV.lt, AV.ltL, lt_bytes, ltL_cav, ltL_pred, DW.len, MkPut.len]; omega)
    · have ac : l.map eCav ++ [eCav ⟨false, ⟨7, 0, 0, 0, [], y⟩, 0, [], []⟩] = (l ++ [(⟨false, ⟨7, 0, 0, 0, [], y⟩, 0, [], []⟩ : Cav)]).map eCav := by simp
      simp only [go_sem] at ac
      have hyo : (⟨false, ⟨7, 0, 0, 0, [], y⟩, 0, [], []⟩ : Cav).ok = true := by simp [Cav.ok, Pred.ok]; omega
      simp -implicitDefEqProofs only [↓reduceIte, go_sem, w2, h.got0, h.put0, h.get]
      refine ⟨by omega, by rw [ac]; simp only [go_sem], ?_⟩
      refine Lock.mk (AM.drop (X := [.obj (eCav ⟨false, ⟨7, 0, 0, 0, [], y⟩, 0, [], []⟩)]) ?_ ?_ ?_ (by repeat (first | exact WkL.nil | refine WkL.cons (Wk.refl _) ?_ | refine WkL.cons (Wk.any _) ?_ | refine WkL.cons Wk.sla ?_ | refine WkL.cons Wk.sl ?_ | refine WkL.cons Wk.empty ?_ | refine WkL.cons (Wk.int (by omega)) ?_ | refine WkL.cons (Wk.eq (by simp [u8, eCav, ePred])) ?_)) (ih ((l ++ [⟨false, ⟨7, 0, 0, 0, [], y⟩, 0, [], []⟩], d3, j - 1)) (⟨by simp only; omega, by simp only [List.length_append, List.length_singleton]; omega, by intro c' hc'; simp only [List.mem_append, List.mem_singleton] at hc'; rcases hc' with hc' | rfl <;> simp_all⟩) (by simp only; omega) _ _ (WkL.refl _) rfl))
      · first | rfl | (simp [eCav, ePred]; done)
      · first | exact Nat.le_refl _ | (simp; done) | (simp [DW.len, MkPut.len]; try omega)
      · first | (simp only [go_sem]; done) | (simp [AV.lt, AV.ltL, lt_bytes, ltL_cav, ltL_pred]; done) | (simp [AV.lt, AV.ltL, lt_bytes, ltL_cav, ltL_pred, DW.len, MkPut.len]; omega)
  · simp -implicitDefEqProofs only [↓reduceIte, go_sem, h.got0, h.put0, h.get]
    exact ⟨(s, l, d1), ⟨h1, h2, by simp only; omega, h7⟩, .ext (.refl _) (by simp [AV.lt, AV.ltL, eMint, ltL_cav])⟩

theorem c_refKeyF (a : Alg) (hf : a.free = true) (ha : a.seed.length = 32) (h0 : 0 ≤ a.fresh) (h1 : a.fresh < 65536) (H : List Blk) : ACalls E 18 [eAlg a] H (Gives H (.tup [eAlg { a with fresh := a.fresh + 1 }, .arr 1 ((symL 107 (a.fresh + 1)).map u8), .v (.int .i64 0)])) := by
  have w1 : IntKind.wrap .i64 (a.fresh + 1) = a.fresh + 1 := by rw [wrap64 (by omega) (by omega)]

  refine ACalls.tidy (by simp) (ACalls.enter Tryd.call18 Tryd.func18 rfl ?_)
  refine AW.sound pd18 mixed Tryd.func18 (by rw [Tryd.results18]) 1000 ?_
  simp -implicitDefEqProofs only [↓reduceIte, go_sem, Tryd.ntmps18, ha, w1, hf]
  refine brk.dec (fun q => by omega) (fun q => ?_)
  simp -implicitDefEqProofs only [↓reduceIte, go_sem, ha, w1, hf]
  try refine ⟨Lock.ok (by decide +kernel), ?_⟩
  refine ACalls.useW (by repeat (first | exact WkL.nil | refine WkL.cons (Wk.refl _) ?_ | refine WkL.cons Wk.sla ?_ | refine WkL.cons Wk.sl ?_ | refine WkL.cons Wk.empty ?_ | refine WkL.cons Wk.nil ?_ | refine WkL.cons (Wk.node (by repeat' (first | exact WkL.nil | refine WkL.cons ?_ ?_ | exact Wk.refl _ | exact Wk.sla | exact Wk.sl | exact Wk.empty | exact Wk.nil | refine Wk.node ?_))) ?_)) (c_refSymbol 107 (a.fresh + 1) (by omega) _) ?_
  simp -implicitDefEqProofs only [↓reduceIte, go_sem, symL_length, ha, w1, hf]
  exact .ext (.tup (.cons (Wk.eq (by simp [eAlg, hf])) (.cons (.refl _) (.cons (.refl _) .nil)))) (by simp [AV.lt, AV.ltL, eAlg, lt_bytes, ltL_mac, ltL_sealed])

theorem eq_of_getD {a b : By} (hl : a.length = b.length) (h : ∀ j, j < a.length → a.getD j 0 = b.getD j 0) : a = b := by
  apply List.ext_getElem hl
  intro i h1 h2
  have := h i h1
  simpa [List.getD_eq_getElem?_getD, h1, h2] using this
theorem c_SameB (a b : By) (ha : a.length ≤ 1000000) (H : List Blk) : ACalls E 47 [.sl 1 (a.map u8) false, .sl 1 (b.map u8) false] H (Gives H (.v (.bool (a == b)))) := by
  refine ACalls.tidy (by simp) (ACalls.enter Tryd.call47 Tryd.func47 rfl ?_)
  refine AW.sound pd47 mixed Tryd.func47 (by rw [Tryd.results47]) 1000 ?_
  simp -implicitDefEqProofs only [↓reduceIte, go_sem, Tryd.ntmps47]
  refine brk.bne (fun q => ?_) (fun q => ?_)
  · simp -implicitDefEqProofs only [↓reduceIte, go_sem]
    have : (a == b) = false := by
      rw [beq_eq_false_iff_ne]; rintro rfl; exact q rfl
    exact .here (.bool this.symm) trivial
  simp -implicitDefEqProofs only [↓reduceIte, go_sem]
  refine Lock.mk ?_
  refine AM.loopX (α := Nat) (fun i => i ≤ a.length ∧ ∀ j, j < i → a.getD j 0 = b.getD j 0) (fun i => a.length - i) (fun _ => H) (fun i => [.sl 1 (a.map u8) false, .sl 1 (b.map u8) false, .any, .any, .any, .v (.int .i64 i), .any, .any, .any, .any, .any, .any, .any, .any, .any, .any, .any, .any, .any, .any, .any, .any, .any, .any, .any, .any]) (0) (⟨Nat.zero_le _, fun j h => by omega⟩) (by repeat (first | exact WkL.nil | refine WkL.cons (Wk.refl _) ?_ | refine WkL.cons (Wk.any _) ?_ | refine WkL.cons Wk.sla ?_ | refine WkL.cons Wk.sl ?_ | refine WkL.cons Wk.empty ?_ | refine WkL.cons (Wk.int (by omega)) ?_ | refine WkL.cons (Wk.eq (by simp [u8])) ?_)) rfl ?_
  rintro i ⟨h1, h2⟩ ih
  refine AW.sound pd47 mixed Tryd.func47 (by rw [Tryd.results47]) 1000 ?_
  simp -implicitDefEqProofs only [↓reduceIte, go_sem]
  refine brk.dec (fun q1 => ?_) (fun q1 => ?_)
  · have g1 : i < a.length := by omega
    have g2 : i < b.length := by omega
    have w1 : IntKind.wrap .i64 (↑i + 1) = ((i + 1 : Nat) : Int) := by rw [wrap64 (by omega) (by omega)]; omega
    simp -implicitDefEqProofs only [↓reduceIte, go_sem, g1, g2, w1]
    try refine ⟨Lock.ok (by decide +kernel), ?_⟩
    refine brk.bne (fun q2 => ?_) (fun q2 => ?_)
    · simp -implicitDefEqProofs only [↓reduceIte, go_sem]
      have : (a == b) = false := by
        rw [beq_eq_false_iff_ne]; rintro rfl; exact q2 rfl
      exact .here (.bool this.symm) trivial
    · simp -implicitDefEqProofs only [↓reduceIte, go_sem, w1]
      have q3 : a.getD i 0 = b.getD i 0 := UInt8.toNat_inj.1 (by omega)
      have hn : ∀ j, j < i + 1 → a.getD j 0 = b.getD j 0 := by
        intro j hj
        rcases Nat.lt_or_ge j i with h | h
        · exact h2 j h
        · obtain rfl : j = i := by omega
          exact q3
      refine Lock.mk (ih (i + 1) (⟨g1, hn⟩) (by omega) _ _ (by repeat (first | exact WkL.nil | refine WkL.cons (Wk.refl _) ?_ | refine WkL.cons (Wk.any _) ?_ | refine WkL.cons Wk.sla ?_ | refine WkL.cons Wk.sl ?_ | refine WkL.cons Wk.empty ?_ | refine WkL.cons (Wk.int (by omega)) ?_ | refine WkL.cons (Wk.eq (by simp [u8])) ?_)) (by first | rfl | (simp; done)))
  · simp -implicitDefEqProofs only [↓reduceIte, go_sem]
    have : a = b := eq_of_getD (by omega) (fun j hj => h2 j (by omega))
    subst this
    exact .here (.bool (by simp)) trivial

@[go_sem] theorem eqB_bool (a b : Bool) : eqB (.v (.bool a)) (.v (.bool b)) = (a == b) := by simp [eqB, AV.leaves, leafEq]
theorem eqok_bool (a b : Bool) : EqOk E.P 4 (.v (.bool a)) (.v (.bool b)) (a == b) := by
  intro G w x y xo yo hx hy
  obtain rfl := hx.inv_v
  obtain rfl := hy.inv_v
  have hg : ∀ op, (eqGuard op 4 xo yo (.bool a) (.bool b)).run E.P w = .ok () w := fun op => eqGuard_off (.inr ⟨rfl, by simp⟩)
  have he : ∀ d, (Go.Op.equalIn (d + 1) 4 (.bool a) (.bool b)).run E.P w = .ok (a == b) w := fun d => run_equalIn_bool w d _ a b Tryd.underlying4
  have he2 : (Go.Op.equal 4 (.bool a) (.bool b)).run E.P w = .ok (a == b) w := he 9999
  constructor
  · simp [Sem.run_bind, hg, Go.binOp, he2, pure]
  · simp [Sem.run_bind, hg, Go.binOp, he2, pure]
@[go_sem] theorem eqok_bool' (a b r : Bool) (h : r = (a == b)) : EqOk E.P 4 (.v (.bool a)) (.v (.bool b)) r = True := eq_true (by subst h; exact eqok_bool a b)
theorem predEq (p q : Pred) : (p.kind == q.kind && (((p.mask.toNat : Int) == (q.mask.toNat : Int)) && (p.frm == q.frm && (p.til == q.til && (p.name == q.name && p.num == q.num))))) = decide (p = q) := by
  obtain ⟨a, b, c, d, e, f⟩ := p
  obtain ⟨a', b', c', d', e', f'⟩ := q
  rw [Bool.eq_iff_iff]
  simp only [Bool.and_eq_true, beq_iff_eq, decide_eq_true_eq, Pred.mk.injEq]
  rw [← UInt64.toNat_inj (a := b)]
  constructor
  · rintro ⟨h1, h2, h3, h4, h5, h6⟩; exact ⟨h1, by omega, h3, h4, h5, h6⟩
  · rintro ⟨h1, h2, h3, h4, h5, h6⟩; exact ⟨h1, by omega, h3, h4, h5, h6⟩
def cavsEq (l m : List Cav) : Bool := decide (l = m)
theorem c_SameC (l m : List Cav) (hl : l.length ≤ 1000) (hb : ∀ c ∈ l, c.ticket.length ≤ 1000000 ∧ c.box.length ≤ 1000000) (H : List Blk) : ACalls E 21 [.sl 10 (l.map eCav) false, .sl 10 (m.map eCav) false] H (Gives H (.v (.bool (cavsEq l m)))) := by
  refine ACalls.tidy (by simp) (ACalls.enter Tryd.call21 Tryd.func21 rfl ?_)
  refine AW.sound pd21 mixed Tryd.func21 (by rw [Tryd.results21]) 1000 ?_
  simp -implicitDefEqProofs only [↓reduceIte, go_sem, Tryd.ntmps21]
  refine brk.bne (fun q => ?_) (fun q => ?_)
  · simp -implicitDefEqProofs only [↓reduceIte, go_sem]
    have : cavsEq l m = false := by
      simp only [cavsEq, decide_eq_false_iff_not]; rintro rfl; exact q rfl
    exact .here (.bool this.symm) trivial
  simp -implicitDefEqProofs only [↓reduceIte, go_sem]
  refine Lock.mk ?_
  refine AM.loopX (α := Nat) (fun i => i ≤ l.length ∧ ∀ j, j < i → l[j]? = m[j]?) (fun i => l.length - i) (fun _ => H) (fun i => [.sl 10 (l.map eCav) false, .sl 10 (m.map eCav) false, .any, .any, .any, .v (.int .i64 i), .any, .any, .any, .any, .any, .any, .any, .any, .any, .any, .any, .any, .any, .any, .any, .any, .any, .any, .any, .any, .any, .any, .any, .any, .any, .any, .any, .any, .any, .any, .any, .any, .any, .any, .any, .any, .any, .any, .any, .any, .any, .any, .any, .any, .any, .any, .any, .any, .any, .any, .any, .any, .any, .any, .any, .any]) (0) (⟨Nat.zero_le _, fun j h => by omega⟩) (by repeat (first | exact WkL.nil | refine WkL.cons (Wk.refl _) ?_ | refine WkL.cons (Wk.any _) ?_ | refine WkL.cons Wk.sla ?_ | refine WkL.cons Wk.sl ?_ | refine WkL.cons Wk.empty ?_ | refine WkL.cons (Wk.int (by omega)) ?_ | refine WkL.cons (Wk.eq (by simp [u8])) ?_)) rfl ?_
  rintro i ⟨h1, h2⟩ ih
  refine AW.sound pd21 mixed Tryd.func21 (by rw [Tryd.results21]) 1000 ?_
  simp -implicitDefEqProofs only [↓reduceIte, go_sem]
  refine brk.dec (fun q1 => ?_) (fun q1 => ?_)
  · have g1 : i < l.length := by omega
    have g2 : i < m.length := by omega
    have w1 : IntKind.wrap .i64 (↑i + 1) = ((i + 1 : Nat) : Int) := by rw [wrap64 (by omega) (by omega)]; omega
    have hbl := hb _ (List.getElem_mem g1)

    simp -implicitDefEqProofs only [↓reduceIte, go_sem, g1, g2, w1, getD_cav g1, getD_cav g2, predEq]
    try refine ⟨Lock.ok (by decide +kernel), ?_⟩
    refine brk.beq (fun q2 => ?_) (fun q2 => ?_)
    · simp -implicitDefEqProofs only [↓reduceIte, go_sem, q2, g1, g2, w1, getD_cav g1, getD_cav g2, predEq]
      refine brk.mk (fun q3 => ?_) (fun q3 => ?_)
      · simp -implicitDefEqProofs only [↓reduceIte, go_sem, q2, q3, g1, g2, w1, getD_cav g1, getD_cav g2, predEq]
        refine brk.not (brk.bne (fun q4 => ?_) (fun q4 => ?_))
        · simp -implicitDefEqProofs only [↓reduceIte, go_sem, q2, q3, q4, g1, g2, w1, getD_cav g1, getD_cav g2, predEq]
          have : cavsEq l m = false := by
            simp only [cavsEq, decide_eq_false_iff_not]; rintro rfl; exact q4 rfl
          exact .ext (.bool this.symm) trivial
        · simp -implicitDefEqProofs only [↓reduceIte, go_sem, q2, q3, q4, g1, g2, w1, getD_cav g1, getD_cav g2, predEq]
          refine ACalls.useW (by repeat (first | exact WkL.nil | refine WkL.cons (Wk.refl _) ?_ | refine WkL.cons Wk.sla ?_ | refine WkL.cons Wk.sl ?_ | refine WkL.cons Wk.empty ?_ | refine WkL.cons Wk.nil ?_ | refine WkL.cons (Wk.node (by repeat' (first | exact WkL.nil | refine WkL.cons ?_ ?_ | exact Wk.refl _ | exact Wk.sla | exact Wk.sl | exact Wk.empty | exact Wk.nil | refine Wk.node ?_))) ?_)) (c_SameB _ _ hbl.1 _) ?_
          simp -implicitDefEqProofs only [↓reduceIte, go_sem, q2, q3, q4, g1, g2, w1, getD_cav g1, getD_cav g2, predEq]
          refine brk.beq (fun q5 => ?_) (fun q5 => ?_)
          · simp -implicitDefEqProofs only [↓reduceIte, go_sem, q2, q3, q4, q5, g1, g2, w1, getD_cav g1, getD_cav g2, predEq]
            refine ACalls.useW (by repeat (first | exact WkL.nil | refine WkL.cons (Wk.refl _) ?_ | refine WkL.cons Wk.sla ?_ | refine WkL.cons Wk.sl ?_ | refine WkL.cons Wk.empty ?_ | refine WkL.cons Wk.nil ?_ | refine WkL.cons (Wk.node (by repeat' (first | exact WkL.nil | refine WkL.cons ?_ ?_ | exact Wk.refl _ | exact Wk.sla | exact Wk.sl | exact Wk.empty | exact Wk.nil | refine Wk.node ?_))) ?_)) (c_SameB _ _ hbl.2 _) ?_
            simp -implicitDefEqProofs only [↓reduceIte, go_sem, q2, q3, q4, q5, g1, g2, w1, getD_cav g1, getD_cav g2, predEq]
            refine brk.not (brk.beq (fun q6 => ?_) (fun q6 => ?_))
            · simp -implicitDefEqProofs only [↓reduceIte, go_sem, q6, w1, g1, g2, w1, getD_cav g1, getD_cav g2, predEq]
              have hce : l[i] = m[i] := by
                have p3 : l[i].first = m[i].first := by simpa using q3
                cases hx : l[i]; cases hy : m[i]
                rw [hx, hy] at q2 p3 q4 q5 q6
                simp only at q2 p3 q4 q5 q6
                subst q2 p3 q4 q5 q6
                rfl
              have hn : ∀ j, j < i + 1 → l[j]? = m[j]? := by
                intro j hj
                rcases Nat.lt_or_ge j i with h | h
                · exact h2 j h
                · obtain rfl : j = i := by omega
                  rw [List.getElem?_eq_getElem g1, List.getElem?_eq_getElem g2, hce]
              refine Lock.mk (AM.drop (X := [.obj (eCav l[i]), .obj (eCav m[i])]) ?_ ?_ ?_ (by repeat (first | exact WkL.nil | refine WkL.cons (Wk.refl _) ?_ | refine WkL.cons (Wk.any _) ?_ | refine WkL.cons Wk.sla ?_ | refine WkL.cons Wk.sl ?_ | refine WkL.cons Wk.empty ?_ | refine WkL.cons (Wk.int (by omega)) ?_ | refine WkL.cons (Wk.eq (by simp [u8, eCav, ePred, q2, q3, q4, q5, q6, hce])) ?_)) (ih (i + 1) (⟨g1, hn⟩) (by omega) _ _ (WkL.refl _) rfl))
              · first | rfl | (simp [eCav, ePred, q2, q3, q4, q5, q6, hce]; done)
              · first | exact Nat.le_refl _ | (simp; done) | (simp [DW.len, MkPut.len]; try omega)
              · first | (simp only [go_sem]; done) | (simp [AV.lt, AV.ltL, lt_bytes, ltL_cav, ltL_pred]; done) | (simp [AV.lt, AV.ltL, lt_bytes, ltL_cav, ltL_pred, DW.len, MkPut.len]; omega)
            · simp -implicitDefEqProofs only [↓reduceIte, go_sem, q6, g1, g2, w1, getD_cav g1, getD_cav g2, predEq]
              have : cavsEq l m = false := by
                simp only [cavsEq, decide_eq_false_iff_not]; rintro rfl; exact q6 rfl
              exact .ext (.bool this.symm) trivial
          · simp -implicitDefEqProofs only [↓reduceIte, go_sem, q2, q3, q4, q5, g1, g2, w1, getD_cav g1, getD_cav g2, predEq]
            have : cavsEq l m = false := by
              simp only [cavsEq, decide_eq_false_iff_not]; rintro rfl; exact q5 rfl
            exact .ext (.bool this.symm) trivial
      · simp -implicitDefEqProofs only [↓reduceIte, go_sem, q2, q3, g1, g2, w1, getD_cav g1, getD_cav g2, predEq]
        have : cavsEq l m = false := by
          simp only [cavsEq, decide_eq_false_iff_not]; rintro rfl; simp at q3
        exact .ext (.bool this.symm) trivial
    · simp -implicitDefEqProofs only [↓reduceIte, go_sem, q2, g1, g2, w1, getD_cav g1, getD_cav g2, predEq]
      have : cavsEq l m = false := by
        simp only [cavsEq, decide_eq_false_iff_not]; rintro rfl; exact q2 rfl
      exact .ext (.bool this.symm) trivial

  · simp -implicitDefEqProofs only [↓reduceIte, go_sem]
    have : l = m := by
      apply List.ext_getElem?
      intro j
      rcases Nat.lt_or_ge j l.length with h | h
      · exact h2 j (by omega)
      · rw [List.getElem?_eq_none h, List.getElem?_eq_none (by omega)]
    subst this
    exact .here (.bool (by simp [cavsEq])) trivial
end Go.Mc
