/- Contracts of functions of the program. -/
import Derived.Test.YtineemehkodlmaaDoorE8
set_option linter.all false
set_option maxRecDepth 100000
set_option maxHeartbeats 2000000
namespace Go.Mc
open Go.Proofs

def eInts (L : List Int) : AV := .sl 1 (L.map fun x => AV.v (.int .i64 x)) false
attribute [go_sem] eInts
/-- the key and the algebra that the law begins with -/
def kF : By := symL 107 1
theorem kF_len : kF.length = 32 := symL_length ..
def A1 : Alg := { A0 with fresh := 1 }
theorem A1_good : Good A1 0 := ⟨⟨zeros_length 32, by simp [A1, A0], by simp [A1, A0], by simp [A1, A0], by simp [A1, A0], by simp [A1, A0], by simp [A1, A0]⟩, ⟨rfl, by simp [A1, A0], by simp [A1, A0]⟩, by simp [A1, A0]⟩

theorem ok_len {c : Cav} (h : c.ok = true) : c.ticket.length ≤ 100000 ∧ c.box.length ≤ 100000 := by
  unfold Cav.ok at h
  split at h <;> simp only [Bool.and_eq_true, decide_eq_true_eq] at h <;> omega

theorem c_ChainFreeF (L1 L2 : List Int) (h1 : L1.length ≤ 9223372036854775807) (h2 : L2.length ≤ 9223372036854775807) (H : List Blk) : ACalls E 4 [eInts L1, eInts L2, .v (.bool false)] H (Gives H (.v (.bool true))) := by

  refine ACalls.tidy (by simp) (ACalls.enter Tryd.call4 Tryd.func4 rfl ?_)
  refine AW.sound pd4 mixed Tryd.func4 (by rw [Tryd.results4]) 1000 ?_
  simp -implicitDefEqProofs only [↓reduceIte, go_sem, Tryd.ntmps4, zeros_length, symL_length, DW, eMint]
  refine ACalls.useW (by repeat (first | exact WkL.nil | refine WkL.cons (Wk.refl _) ?_ | refine WkL.cons Wk.sla ?_ | refine WkL.cons Wk.sl ?_ | refine WkL.cons Wk.empty ?_ | refine WkL.cons Wk.nil ?_ | refine WkL.cons (Wk.node (by repeat' (first | exact WkL.nil | refine WkL.cons ?_ ?_ | exact Wk.refl _ | exact Wk.sla | exact Wk.sl | exact Wk.empty | exact Wk.nil | refine Wk.node ?_))) ?_)) (c_refKeyF A0 rfl (zeros_length 32) (by simp [A0]) (by simp [A0]) _) ?_
  simp -implicitDefEqProofs only [↓reduceIte, go_sem, A0, zeros_length, symL_length, DW, eMint]
  refine ACalls.useW (by repeat (first | exact WkL.nil | refine WkL.cons (Wk.refl _) ?_ | refine WkL.cons Wk.sla ?_ | refine WkL.cons Wk.sl ?_ | refine WkL.cons Wk.empty ?_ | refine WkL.cons Wk.nil ?_ | refine WkL.cons (Wk.node (by repeat' (first | exact WkL.nil | refine WkL.cons ?_ ?_ | exact Wk.refl _ | exact Wk.sla | exact Wk.sl | exact Wk.empty | exact Wk.nil | refine Wk.node ?_))) ?_)) (c_New L1 h1 _) ?_
  simp -implicitDefEqProofs only [↓reduceIte, go_sem, Nat.add_assoc, zeros_length, symL_length, DW, eMint]
  refine ACalls.useX (by repeat (first | exact WkL.nil | refine WkL.cons (Wk.refl _) ?_ | refine WkL.cons Wk.sla ?_ | refine WkL.cons Wk.sl ?_ | refine WkL.cons Wk.empty ?_ | refine WkL.cons Wk.nil ?_ | refine WkL.cons (Wk.node (by repeat' (first | exact WkL.nil | refine WkL.cons ?_ ?_ | exact Wk.refl _ | exact Wk.sla | exact Wk.sl | exact Wk.empty | exact Wk.nil | refine Wk.node ?_))) ?_)) (c_grown _ _ ⟨L1, 0, by omega, h1⟩ (by simp only [DkAt, go_sem, Nat.add_assoc])) ?_
  rintro ⟨s1, x1, d1⟩ ⟨h3, h4, h5, h6⟩
  try dsimp only at h3 h4 h5 h6
  simp -implicitDefEqProofs only [↓reduceIte, go_sem, Nat.add_assoc, zeros_length, symL_length, DW, eMint]
  refine ACalls.useW (by repeat (first | exact WkL.nil | refine WkL.cons (Wk.refl _) ?_ | refine WkL.cons Wk.sla ?_ | refine WkL.cons Wk.sl ?_ | refine WkL.cons Wk.empty ?_ | refine WkL.cons Wk.nil ?_ | refine WkL.cons (Wk.node (by repeat' (first | exact WkL.nil | refine WkL.cons ?_ ?_ | exact Wk.refl _ | exact Wk.sla | exact Wk.sl | exact Wk.empty | exact Wk.nil | refine Wk.node ?_))) ?_)) (c_New L2 h2 _) ?_
  simp -implicitDefEqProofs only [↓reduceIte, go_sem, Nat.add_assoc, zeros_length, symL_length, DW, eMint]
  refine ACalls.useX (by repeat (first | exact WkL.nil | refine WkL.cons (Wk.refl _) ?_ | refine WkL.cons Wk.sla ?_ | refine WkL.cons Wk.sl ?_ | refine WkL.cons Wk.empty ?_ | refine WkL.cons Wk.nil ?_ | refine WkL.cons (Wk.node (by repeat' (first | exact WkL.nil | refine WkL.cons ?_ ?_ | exact Wk.refl _ | exact Wk.sla | exact Wk.sl | exact Wk.empty | exact Wk.nil | refine Wk.node ?_))) ?_)) (c_grown _ _ ⟨L2, 0, by omega, h2⟩ (by simp only [DkAt, go_sem, Nat.add_assoc])) ?_
  rintro ⟨s2, x2, d2⟩ ⟨h7, h8, h9, h10⟩
  try dsimp only at h7 h8 h9 h10
  simp -implicitDefEqProofs only [↓reduceIte, go_sem, Nat.add_assoc, zeros_length, symL_length, DW, eMint]
  obtain ⟨a1, t1, m1, g1, c1, l1, -⟩ := mint_good hmZ_len A1_good (by omega) (key := kF) kF_len h3 h4
  have hsd1 := g1.ok.seed
  refine ACalls.useW (by repeat (first | exact WkL.nil | refine WkL.cons (Wk.refl _) ?_ | refine WkL.cons Wk.sla ?_ | refine WkL.cons Wk.sl ?_ | refine WkL.cons Wk.empty ?_ | refine WkL.cons Wk.nil ?_ | refine WkL.cons (Wk.node (by repeat' (first | exact WkL.nil | refine WkL.cons ?_ ?_ | exact Wk.refl _ | exact Wk.sla | exact Wk.sl | exact Wk.empty | exact Wk.nil | refine Wk.node ?_))) ?_)) (c_Mint (hm := hmZ) A1 A1_good.ok (hmZ_c A1_good.free) 1 kF kF_len s1 _) ?_
  simp -implicitDefEqProofs only [↓reduceIte, go_sem, m1, ePR, l1, hsd1, Nat.add_assoc, zeros_length, symL_length, DW, eMint]
  refine Lock.mk ?_
  refine AM.loopX (α := Nat × Alg × By) (fun v => v.1 ≤ x1.length ∧ Good v.2.1 (2 + 2 * v.1) ∧ Chain v.2.1 kF s1 (x1.take v.1).reverse v.2.2 ∧ v.2.2.length = 32) (fun v => x1.length - v.1) (fun v => H ++ [.obj (eAlg v.2.1), .obj (.arr 1 (kF.map u8)), .obj (eDk d1), .obj (eDk d2), .obj (eMint s1 x1), .obj (eMint s2 x2), .obj (.node [1, 32] [.v (.int .i64 1), .arr 1 (kF.map u8)]), .obj (ePass ⟨1, s1, x1.take v.1, v.2.2⟩)]) (fun v => [.any, .any, .any, .any, .any, .any, .any, .ptr H.length [] 0, .ptr (H.length + 1) [] 0, .any, .ptr (H.length + 4) [] 0, .ptr (H.length + 5) [] 0, .ptr (H.length + 6) [] 0, .ptr (H.length + 7) [] 0, .v (.int .i64 0), .v (.int .i64 v.1), .any, .any, .any, .any, .any, .any, .any, .any, .any, .any, .any, .any, .any, .any, .any, .any, .any, .any, .any, .any, .any, .any, .any, .any, .any, .any, .any, .any, .any, .any, .any, .any, .any, .any, .any, .any, .any, .any, .any, .any, .any, .any, .any, .any, .any, .any, .any, .any, .any, .any, .any, .any, .any, .any, .any, .any, .any, .any, .any, .any, .any, .any, .any, .any, .any, .any, .any, .any, .any, .any, .any, .any, .any, .any, .any, .any, .any, .any, .any, .any, .any, .any, .any, .any, .any, .any, .any, .any, .any, .any, .any, .any, .any, .any, .any, .any, .any, .any, .any, .any, .any, .any, .any, .any, .any, .any, .any, .any, .any]) ((0, a1, t1)) (⟨Nat.zero_le _, g1, c1, l1⟩) (by repeat (first | exact WkL.nil | refine WkL.cons (Wk.refl _) ?_ | refine WkL.cons (Wk.any _) ?_ | refine WkL.cons Wk.sla ?_ | refine WkL.cons Wk.sl ?_ | refine WkL.cons Wk.empty ?_ | refine WkL.cons (Wk.int (by omega)) ?_ | refine WkL.cons (Wk.eq (by simp [u8])) ?_)) rfl ?_
  rintro ⟨i, a, t⟩ ⟨k1, k2, k3, k4⟩ ih
  simp only at k1 k2 k3 k4 ih ⊢
  have hsd := k2.ok.seed
  refine AW.sound pd4 mixed Tryd.func4 (by rw [Tryd.results4]) 1000 ?_
  simp -implicitDefEqProofs only [↓reduceIte, go_sem, hsd, k4, zeros_length, symL_length, DW, eMint]
  refine brk.dec (fun q => ?_) (fun q => ?_)
  · have q1 : i < x1.length := by omega
    have w1 : IntKind.wrap .i64 (↑i + 1) = ((i + 1 : Nat) : Int) := by rw [wrap64 (by omega) (by omega)]; omega
    have hx := h6 _ (List.getElem_mem q1)
    have okp : (⟨1, s1, x1.take i, t⟩ : Pass).Ok := ⟨k4, by simp only [List.length_take]; omega, fun c hc => ok_len (h6 c (List.mem_of_mem_take hc))⟩
    obtain ⟨a', t', m2, g2, c2, l2, mo⟩ := att_good hmZ_len (p := ⟨1, s1, x1.take i, t⟩) k2 (by omega) k4 (by simp only [List.length_take]; omega) hx
    have et : x1.take i ++ [x1[i]] = x1.take (i + 1) := by simp
    simp only [et] at m2
    have hsd2 := g2.ok.seed
    simp -implicitDefEqProofs only [↓reduceIte, go_sem, q1, getD_cav q1, hsd, k4, zeros_length, symL_length, DW, eMint]
    try refine ⟨Lock.ok (by decide +kernel), ?_⟩
    refine ACalls.useW (by repeat (first | exact WkL.nil | refine WkL.cons (Wk.refl _) ?_ | refine WkL.cons Wk.sla ?_ | refine WkL.cons Wk.sl ?_ | refine WkL.cons Wk.empty ?_ | refine WkL.cons Wk.nil ?_ | refine WkL.cons (Wk.node (by repeat' (first | exact WkL.nil | refine WkL.cons ?_ ?_ | exact Wk.refl _ | exact Wk.sla | exact Wk.sl | exact Wk.empty | exact Wk.nil | refine Wk.node ?_))) ?_)) (c_Attenuate (hm := hmZ) a k2.ok (hmZ_c k2.free) ⟨1, s1, x1.take i, t⟩ okp x1[i] (ok_len hx) _) ?_
    simp -implicitDefEqProofs only [↓reduceIte, go_sem, m2, ePR, l2, hsd2, w1, zeros_length, symL_length, DW, eMint]
    have cn : Chain a' kF s1 (x1.take (i + 1)).reverse t' := by
      rw [← et, List.reverse_append]
      exact .cav (k3.mono mo) c2 hx
    refine Lock.mk (ih ((i + 1, a', t')) (⟨q1, by rw [show 2 + 2 * (i + 1) = 2 + 2 * i + 2 by omega]; exact g2, cn, l2⟩) (by simp only; omega) _ _ (by repeat (first | exact WkL.nil | refine WkL.cons (Wk.refl _) ?_ | refine WkL.cons (Wk.any _) ?_ | refine WkL.cons Wk.sla ?_ | refine WkL.cons Wk.sl ?_ | refine WkL.cons Wk.empty ?_ | refine WkL.cons (Wk.int (by omega)) ?_ | refine WkL.cons (Wk.eq (by simp [u8])) ?_)) (by first | rfl | (simp; done)))
  · obtain rfl : i = x1.length := by omega
    rw [List.take_length] at k3
    obtain ⟨a2, u2, m2, g2, c2, l2, mo⟩ := mint_good hmZ_len k2 (by omega) (key := kF) kF_len h7 h8
    have hsd2 := g2.ok.seed
    simp -implicitDefEqProofs only [↓reduceIte, go_sem, q, hsd, k4, zeros_length, symL_length, DW, eMint]
    refine ACalls.useW (by repeat (first | exact WkL.nil | refine WkL.cons (Wk.refl _) ?_ | refine WkL.cons Wk.sla ?_ | refine WkL.cons Wk.sl ?_ | refine WkL.cons Wk.empty ?_ | refine WkL.cons Wk.nil ?_ | refine WkL.cons (Wk.node (by repeat' (first | exact WkL.nil | refine WkL.cons ?_ ?_ | exact Wk.refl _ | exact Wk.sla | exact Wk.sl | exact Wk.empty | exact Wk.nil | refine Wk.node ?_))) ?_)) (c_Mint (hm := hmZ) a k2.ok (hmZ_c k2.free) 1 kF kF_len s2 _) ?_
    simp -implicitDefEqProofs only [↓reduceIte, go_sem, m2, ePR, l2, hsd2, Nat.add_assoc, zeros_length, symL_length, DW, eMint]
    refine Lock.mk ?_
    refine AM.loopX (α := Nat × Alg × By) (fun v => v.1 ≤ x2.length ∧ Good v.2.1 (20 + 2 * v.1) ∧ Chain v.2.1 kF s2 (x2.take v.1).reverse v.2.2 ∧ v.2.2.length = 32 ∧ Chain v.2.1 kF s1 x1.reverse t) (fun v => x2.length - v.1) (fun v => H ++ [.obj (eAlg v.2.1), .obj (.arr 1 (kF.map u8)), .obj (eDk d1), .obj (eDk d2), .obj (eMint s1 x1), .obj (eMint s2 x2), .obj (.node [1, 32] [.v (.int .i64 1), .arr 1 (kF.map u8)]), .obj (ePass ⟨1, s1, x1.take x1.length, t⟩), .obj (ePass ⟨1, s2, x2.take v.1, v.2.2⟩)]) (fun v => [.any, .any, .any, .any, .any, .any, .any, .ptr H.length [] 0, .any, .any, .ptr (H.length + 4) [] 0, .ptr (H.length + 5) [] 0, .any, .ptr (H.length + 7) [] 0, .v (.int .i64 0), .any, .ptr (H.length + 8) [] 0, .v (.int .i64 v.1), .any, .any, .any, .any, .any, .any, .any, .any, .any, .any, .any, .any, .any, .any, .any, .any, .any, .any, .any, .any, .any, .any, .any, .any, .any, .any, .any, .any, .any, .any, .any, .any, .any, .any, .any, .any, .any, .any, .any, .any, .any, .any, .any, .any, .any, .any, .any, .any, .any, .any, .any, .any, .any, .any, .any, .any, .any, .any, .any, .any, .any, .any, .any, .any, .any, .any, .any, .any, .any, .any, .any, .any, .any, .any, .any, .any, .any, .any, .any, .any, .any, .any, .any, .any, .any, .any, .any, .any, .any, .any, .any, .any, .any, .any, .any, .any, .any, .any, .any, .any, .any, .any, .any, .any, .any, .any, .any]) ((0, a2, u2)) (⟨Nat.zero_le _, ⟨g2.ok, g2.free, by have := g2.len; simp only; omega⟩, c2, l2, k3.mono mo⟩) (by repeat (first | exact WkL.nil | refine WkL.cons (Wk.refl _) ?_ | refine WkL.cons (Wk.any _) ?_ | refine WkL.cons Wk.sla ?_ | refine WkL.cons Wk.sl ?_ | refine WkL.cons Wk.empty ?_ | refine WkL.cons (Wk.int (by omega)) ?_ | refine WkL.cons (Wk.eq (by simp [u8])) ?_)) rfl ?_
    rintro ⟨j, b, u⟩ ⟨b1, b2, b3, b4, b5⟩ ih2
    simp only at b1 b2 b3 b4 b5 ih2 ⊢
    have hsb := b2.ok.seed
    refine AW.sound pd4 mixed Tryd.func4 (by rw [Tryd.results4]) 1000 ?_
    simp -implicitDefEqProofs only [↓reduceIte, go_sem, hsb, b4, zeros_length, symL_length, DW, eMint]
    refine brk.dec (fun q => ?_) (fun q => ?_)
    · have q1 : j < x2.length := by omega
      have w1 : IntKind.wrap .i64 (↑j + 1) = ((j + 1 : Nat) : Int) := by rw [wrap64 (by omega) (by omega)]; omega
      have hx := h10 _ (List.getElem_mem q1)
      have okp : (⟨1, s2, x2.take j, u⟩ : Pass).Ok := ⟨b4, by simp only [List.length_take]; omega, fun c hc => ok_len (h10 c (List.mem_of_mem_take hc))⟩
      obtain ⟨a', t', m3, g3, c3, l3, mo3⟩ := att_good hmZ_len (p := ⟨1, s2, x2.take j, u⟩) b2 (by omega) b4 (by simp only [List.length_take]; omega) hx
      have et : x2.take j ++ [x2[j]] = x2.take (j + 1) := by simp
      simp only [et] at m3
      have hsd3 := g3.ok.seed
      simp -implicitDefEqProofs only [↓reduceIte, go_sem, q1, getD_cav q1, hsb, b4, zeros_length, symL_length, DW, eMint]
      try refine ⟨Lock.ok (by decide +kernel), ?_⟩
      refine ACalls.useW (by repeat (first | exact WkL.nil | refine WkL.cons (Wk.refl _) ?_ | refine WkL.cons Wk.sla ?_ | refine WkL.cons Wk.sl ?_ | refine WkL.cons Wk.empty ?_ | refine WkL.cons Wk.nil ?_ | refine WkL.cons (Wk.node (by repeat' (first | exact WkL.nil | refine WkL.cons ?_ ?_ | exact Wk.refl _ | exact Wk.sla | exact Wk.sl | exact Wk.empty | exact Wk.nil | refine Wk.node ?_))) ?_)) (c_Attenuate (hm := hmZ) b b2.ok (hmZ_c b2.free) ⟨1, s2, x2.take j, u⟩ okp x2[j] (ok_len hx) _) ?_
      simp -implicitDefEqProofs only [↓reduceIte, go_sem, m3, ePR, l3, hsd3, w1, zeros_length, symL_length, DW, eMint]
      have cn : Chain a' kF s2 (x2.take (j + 1)).reverse t' := by
        rw [← et, List.reverse_append]
        exact .cav (b3.mono mo3) c3 hx
      refine Lock.mk (ih2 (j + 1, a', t') (⟨q1, by rw [show 20 + 2 * (j + 1) = 20 + 2 * j + 2 by omega]; exact g3, cn, l3, b5.mono mo3⟩) (by simp only; omega) _ _ (by repeat (first | exact WkL.nil | refine WkL.cons (Wk.refl _) ?_ | refine WkL.cons (Wk.any _) ?_ | refine WkL.cons Wk.sla ?_ | refine WkL.cons Wk.sl ?_ | refine WkL.cons Wk.empty ?_ | refine WkL.cons (Wk.int (by omega)) ?_ | refine WkL.cons (Wk.eq (by simp [u8])) ?_)) (by first | rfl | (simp; done)))
    · obtain rfl : j = x2.length := by omega
      rw [List.take_length] at b3
      simp -implicitDefEqProofs only [↓reduceIte, go_sem, q, hsb, b4, k4, zeros_length, symL_length, DW, eMint]
      have law : (t == u) = (s1 == s2 && cavsEq x1 x2) := by
        rw [Bool.eq_iff_iff]
        simp only [beq_iff_eq, Bool.and_eq_true, cavsEq, decide_eq_true_eq]
        constructor
        · rintro rfl
          obtain ⟨e1, e2⟩ := b5.inj b2.free (by have := b2.len; omega) (by omega) (by omega) b3
          exact ⟨e1, by simpa using e2⟩
        · rintro ⟨rfl, rfl⟩
          exact b5.fn b2.free b3
      try refine ⟨Lock.ok (by decide +kernel), ?_⟩
      refine brk.beq (fun q5 => ?_) (fun q5 => ?_)
      · simp -implicitDefEqProofs only [↓reduceIte, go_sem, q5, zeros_length, symL_length, DW, eMint]
        refine ACalls.useW (by repeat (first | exact WkL.nil | refine WkL.cons (Wk.refl _) ?_ | refine WkL.cons Wk.sla ?_ | refine WkL.cons Wk.sl ?_ | refine WkL.cons Wk.empty ?_ | refine WkL.cons Wk.nil ?_ | refine WkL.cons (Wk.node (by repeat' (first | exact WkL.nil | refine WkL.cons ?_ ?_ | exact Wk.refl _ | exact Wk.sla | exact Wk.sl | exact Wk.empty | exact Wk.nil | refine Wk.node ?_))) ?_)) (c_SameC x1 x2 (by omega) (fun c hc => by have := ok_len (h6 c hc); omega) _) ?_
        simp -implicitDefEqProofs only [↓reduceIte, go_sem, q5, zeros_length, symL_length, DW, eMint]
        refine ⟨⟨k4.symm, b4.symm⟩, ?_⟩
        rw [show (t == u) = cavsEq x1 x2 by rw [law, q5]; simp, show (cavsEq x1 x2 == cavsEq x1 x2) = true from beq_self_eq_true _]
        simp -implicitDefEqProofs only [↓reduceIte, go_sem, zeros_length, symL_length, DW, eMint]
        refine ACalls.useW (by repeat (first | exact WkL.nil | refine WkL.cons (Wk.refl _) ?_ | refine WkL.cons Wk.sla ?_ | refine WkL.cons Wk.sl ?_ | refine WkL.cons Wk.empty ?_ | refine WkL.cons Wk.nil ?_ | refine WkL.cons (Wk.node (by repeat' (first | exact WkL.nil | refine WkL.cons ?_ ?_ | exact Wk.refl _ | exact Wk.sla | exact Wk.sl | exact Wk.empty | exact Wk.nil | refine Wk.node ?_))) ?_)) (c_awake13 _) ?_
        simp -implicitDefEqProofs only [↓reduceIte, go_sem, zeros_length, symL_length, DW, eMint]
        exact .ext (.refl _) trivial
      · simp -implicitDefEqProofs only [↓reduceIte, go_sem, q5, zeros_length, symL_length, DW, eMint]
        rw [show (t == u) = false by rw [law, beq_ne q5]; rfl]
        simp -implicitDefEqProofs only [↓reduceIte, go_sem, zeros_length, symL_length, DW, eMint]
        refine ACalls.useW (by repeat (first | exact WkL.nil | refine WkL.cons (Wk.refl _) ?_ | refine WkL.cons Wk.sla ?_ | refine WkL.cons Wk.sl ?_ | refine WkL.cons Wk.empty ?_ | refine WkL.cons Wk.nil ?_ | refine WkL.cons (Wk.node (by repeat' (first | exact WkL.nil | refine WkL.cons ?_ ?_ | exact Wk.refl _ | exact Wk.sla | exact Wk.sl | exact Wk.empty | exact Wk.nil | refine Wk.node ?_))) ?_)) (c_awake13 _) ?_
        simp -implicitDefEqProofs only [↓reduceIte, go_sem, zeros_length, symL_length, DW, eMint]
        exact .ext (.refl _) trivial
theorem c_ChainFreeT (L1 L2 : List Int) (h1 : L1.length ≤ 9223372036854775807) (h2 : L2.length ≤ 9223372036854775807) (H : List Blk) : ACalls E 4 [eInts L1, eInts L2, .v (.bool true)] H (Gives H (.v (.bool true))) := by

  refine ACalls.tidy (by simp) (ACalls.enter Tryd.call4 Tryd.func4 rfl ?_)
  refine AW.sound pd4 mixed Tryd.func4 (by rw [Tryd.results4]) 1000 ?_
  simp -implicitDefEqProofs only [↓reduceIte, go_sem, Tryd.ntmps4, zeros_length, symL_length, DW, eMint]
  refine ACalls.useW (by repeat (first | exact WkL.nil | refine WkL.cons (Wk.refl _) ?_ | refine WkL.cons Wk.sla ?_ | refine WkL.cons Wk.sl ?_ | refine WkL.cons Wk.empty ?_ | refine WkL.cons Wk.nil ?_ | refine WkL.cons (Wk.node (by repeat' (first | exact WkL.nil | refine WkL.cons ?_ ?_ | exact Wk.refl _ | exact Wk.sla | exact Wk.sl | exact Wk.empty | exact Wk.nil | refine Wk.node ?_))) ?_)) (c_refKeyF A0 rfl (zeros_length 32) (by simp [A0]) (by simp [A0]) _) ?_
  simp -implicitDefEqProofs only [↓reduceIte, go_sem, A0, zeros_length, symL_length, DW, eMint]
  refine ACalls.useW (by repeat (first | exact WkL.nil | refine WkL.cons (Wk.refl _) ?_ | refine WkL.cons Wk.sla ?_ | refine WkL.cons Wk.sl ?_ | refine WkL.cons Wk.empty ?_ | refine WkL.cons Wk.nil ?_ | refine WkL.cons (Wk.node (by repeat' (first | exact WkL.nil | refine WkL.cons ?_ ?_ | exact Wk.refl _ | exact Wk.sla | exact Wk.sl | exact Wk.empty | exact Wk.nil | refine Wk.node ?_))) ?_)) (c_New L1 h1 _) ?_
  simp -implicitDefEqProofs only [↓reduceIte, go_sem, Nat.add_assoc, zeros_length, symL_length, DW, eMint]
  refine ACalls.useX (by repeat (first | exact WkL.nil | refine WkL.cons (Wk.refl _) ?_ | refine WkL.cons Wk.sla ?_ | refine WkL.cons Wk.sl ?_ | refine WkL.cons Wk.empty ?_ | refine WkL.cons Wk.nil ?_ | refine WkL.cons (Wk.node (by repeat' (first | exact WkL.nil | refine WkL.cons ?_ ?_ | exact Wk.refl _ | exact Wk.sla | exact Wk.sl | exact Wk.empty | exact Wk.nil | refine Wk.node ?_))) ?_)) (c_grown _ _ ⟨L1, 0, by omega, h1⟩ (by simp only [DkAt, go_sem, Nat.add_assoc])) ?_
  rintro ⟨s1, x1, d1⟩ ⟨h3, h4, h5, h6⟩
  try dsimp only at h3 h4 h5 h6
  simp -implicitDefEqProofs only [↓reduceIte, go_sem, Nat.add_assoc, zeros_length, symL_length, DW, eMint]
  refine ACalls.useW (by repeat (first | exact WkL.nil | refine WkL.cons (Wk.refl _) ?_ | refine WkL.cons Wk.sla ?_ | refine WkL.cons Wk.sl ?_ | refine WkL.cons Wk.empty ?_ | refine WkL.cons Wk.nil ?_ | refine WkL.cons (Wk.node (by repeat' (first | exact WkL.nil | refine WkL.cons ?_ ?_ | exact Wk.refl _ | exact Wk.sla | exact Wk.sl | exact Wk.empty | exact Wk.nil | refine Wk.node ?_))) ?_)) (c_New L2 h2 _) ?_
  simp -implicitDefEqProofs only [↓reduceIte, go_sem, Nat.add_assoc, zeros_length, symL_length, DW, eMint]
  refine ACalls.useX (by repeat (first | exact WkL.nil | refine WkL.cons (Wk.refl _) ?_ | refine WkL.cons Wk.sla ?_ | refine WkL.cons Wk.sl ?_ | refine WkL.cons Wk.empty ?_ | refine WkL.cons Wk.nil ?_ | refine WkL.cons (Wk.node (by repeat' (first | exact WkL.nil | refine WkL.cons ?_ ?_ | exact Wk.refl _ | exact Wk.sla | exact Wk.sl | exact Wk.empty | exact Wk.nil | refine Wk.node ?_))) ?_)) (c_grown _ _ ⟨L2, 0, by omega, h2⟩ (by simp only [DkAt, go_sem, Nat.add_assoc])) ?_
  rintro ⟨s2, x2, d2⟩ ⟨h7, h8, h9, h10⟩
  try dsimp only at h7 h8 h9 h10
  simp -implicitDefEqProofs only [↓reduceIte, go_sem, Nat.add_assoc, zeros_length, symL_length, DW, eMint]
  refine ACalls.useW (by repeat (first | exact WkL.nil | refine WkL.cons (Wk.refl _) ?_ | refine WkL.cons Wk.sla ?_ | refine WkL.cons Wk.sl ?_ | refine WkL.cons Wk.empty ?_ | refine WkL.cons Wk.nil ?_ | refine WkL.cons (Wk.node (by repeat' (first | exact WkL.nil | refine WkL.cons ?_ ?_ | exact Wk.refl _ | exact Wk.sla | exact Wk.sl | exact Wk.empty | exact Wk.nil | refine Wk.node ?_))) ?_)) (c_New L1 h1 _) ?_
  simp -implicitDefEqProofs only [↓reduceIte, go_sem, Nat.add_assoc, zeros_length, symL_length, DW, eMint]
  refine ACalls.useX (by repeat (first | exact WkL.nil | refine WkL.cons (Wk.refl _) ?_ | refine WkL.cons Wk.sla ?_ | refine WkL.cons Wk.sl ?_ | refine WkL.cons Wk.empty ?_ | refine WkL.cons Wk.nil ?_ | refine WkL.cons (Wk.node (by repeat' (first | exact WkL.nil | refine WkL.cons ?_ ?_ | exact Wk.refl _ | exact Wk.sla | exact Wk.sl | exact Wk.empty | exact Wk.nil | refine Wk.node ?_))) ?_)) (c_grown _ _ ⟨L1, 0, by omega, h1⟩ (by simp only [DkAt, go_sem, Nat.add_assoc])) ?_
  rintro ⟨s3, x3, d3⟩ ⟨h11, h12, h13, h14⟩
  try dsimp only at h11 h12 h13 h14
  simp -implicitDefEqProofs only [↓reduceIte, go_sem, Nat.add_assoc, zeros_length, symL_length, DW, eMint]
  obtain ⟨a1, t1, m1, g1, c1, l1, -⟩ := mint_good hmZ_len A1_good (by omega) (key := kF) kF_len h3 h4
  have hsd1 := g1.ok.seed
  refine ACalls.useW (by repeat (first | exact WkL.nil | refine WkL.cons (Wk.refl _) ?_ | refine WkL.cons Wk.sla ?_ | refine WkL.cons Wk.sl ?_ | refine WkL.cons Wk.empty ?_ | refine WkL.cons Wk.nil ?_ | refine WkL.cons (Wk.node (by repeat' (first | exact WkL.nil | refine WkL.cons ?_ ?_ | exact Wk.refl _ | exact Wk.sla | exact Wk.sl | exact Wk.empty | exact Wk.nil | refine Wk.node ?_))) ?_)) (c_Mint (hm := hmZ) A1 A1_good.ok (hmZ_c A1_good.free) 1 kF kF_len s1 _) ?_
  simp -implicitDefEqProofs only [↓reduceIte, go_sem, m1, ePR, l1, hsd1, Nat.add_assoc, zeros_length, symL_length, DW, eMint]
  refine Lock.mk ?_
  refine AM.loopX (α := Nat × Alg × By) (fun v => v.1 ≤ x1.length ∧ Good v.2.1 (2 + 2 * v.1) ∧ Chain v.2.1 kF s1 (x1.take v.1).reverse v.2.2 ∧ v.2.2.length = 32) (fun v => x1.length - v.1) (fun v => H ++ [.obj (eAlg v.2.1), .obj (.arr 1 (kF.map u8)), .obj (eDk d1), .obj (eDk d2), .obj (eMint s1 x1), .obj (eMint s3 x3), .obj (eDk d3), .obj (.node [1, 32] [.v (.int .i64 1), .arr 1 (kF.map u8)]), .obj (ePass ⟨1, s1, x1.take v.1, v.2.2⟩)]) (fun v => [.any, .any, .any, .any, .any, .any, .any, .ptr H.length [] 0, .ptr (H.length + 1) [] 0, .any, .ptr (H.length + 4) [] 0, .ptr (H.length + 5) [] 0, .ptr (H.length + 7) [] 0, .ptr (H.length + 8) [] 0, .v (.int .i64 0), .v (.int .i64 v.1), .any, .any, .any, .any, .any, .any, .any, .any, .any, .any, .any, .any, .any, .any, .any, .any, .any, .any, .any, .any, .any, .any, .any, .any, .any, .any, .any, .any, .any, .any, .any, .any, .any, .any, .any, .any, .any, .any, .any, .any, .any, .any, .any, .any, .any, .any, .any, .any, .any, .any, .any, .any, .any, .any, .any, .any, .any, .any, .any, .any, .any, .any, .any, .any, .any, .any, .any, .any, .any, .any, .any, .any, .any, .any, .any, .any, .any, .any, .any, .any, .any, .any, .any, .any, .any, .any, .any, .any, .any, .any, .any, .any, .any, .any, .any, .any, .any, .any, .any, .any, .any, .any, .any, .any, .any, .any, .any, .any, .any]) ((0, a1, t1)) (⟨Nat.zero_le _, g1, c1, l1⟩) (by repeat (first | exact WkL.nil | refine WkL.cons (Wk.refl _) ?_ | refine WkL.cons (Wk.any _) ?_ | refine WkL.cons Wk.sla ?_ | refine WkL.cons Wk.sl ?_ | refine WkL.cons Wk.empty ?_ | refine WkL.cons (Wk.int (by omega)) ?_ | refine WkL.cons (Wk.eq (by simp [u8])) ?_)) rfl ?_
  rintro ⟨i, a, t⟩ ⟨k1, k2, k3, k4⟩ ih
  simp only at k1 k2 k3 k4 ih ⊢
  have hsd := k2.ok.seed
  refine AW.sound pd4 mixed Tryd.func4 (by rw [Tryd.results4]) 1000 ?_
  simp -implicitDefEqProofs only [↓reduceIte, go_sem, hsd, k4, zeros_length, symL_length, DW, eMint]
  refine brk.dec (fun q => ?_) (fun q => ?_)
  · have q1 : i < x1.length := by omega
    have w1 : IntKind.wrap .i64 (↑i + 1) = ((i + 1 : Nat) : Int) := by rw [wrap64 (by omega) (by omega)]; omega
    have hx := h6 _ (List.getElem_mem q1)
    have okp : (⟨1, s1, x1.take i, t⟩ : Pass).Ok := ⟨k4, by simp only [List.length_take]; omega, fun c hc => ok_len (h6 c (List.mem_of_mem_take hc))⟩
    obtain ⟨a', t', m2, g2, c2, l2, mo⟩ := att_good hmZ_len (p := ⟨1, s1, x1.take i, t⟩) k2 (by omega) k4 (by simp only [List.length_take]; omega) hx
    have et : x1.take i ++ [x1[i]] = x1.take (i + 1) := by simp
    simp only [et] at m2
    have hsd2 := g2.ok.seed
    simp -implicitDefEqProofs only [↓reduceIte, go_sem, q1, getD_cav q1, hsd, k4, zeros_length, symL_length, DW, eMint]
    try refine ⟨Lock.ok (by decide +kernel), ?_⟩
    refine ACalls.useW (by repeat (first | exact WkL.nil | refine WkL.cons (Wk.refl _) ?_ | refine WkL.cons Wk.sla ?_ | refine WkL.cons Wk.sl ?_ | refine WkL.cons Wk.empty ?_ | refine WkL.cons Wk.nil ?_ | refine WkL.cons (Wk.node (by repeat' (first | exact WkL.nil | refine WkL.cons ?_ ?_ | exact Wk.refl _ | exact Wk.sla | exact Wk.sl | exact Wk.empty | exact Wk.nil | refine Wk.node ?_))) ?_)) (c_Attenuate (hm := hmZ) a k2.ok (hmZ_c k2.free) ⟨1, s1, x1.take i, t⟩ okp x1[i] (ok_len hx) _) ?_
    simp -implicitDefEqProofs only [↓reduceIte, go_sem, m2, ePR, l2, hsd2, w1, zeros_length, symL_length, DW, eMint]
    have cn : Chain a' kF s1 (x1.take (i + 1)).reverse t' := by
      rw [← et, List.reverse_append]
      exact .cav (k3.mono mo) c2 hx
    refine Lock.mk (ih ((i + 1, a', t')) (⟨q1, by rw [show 2 + 2 * (i + 1) = 2 + 2 * i + 2 by omega]; exact g2, cn, l2⟩) (by simp only; omega) _ _ (by repeat (first | exact WkL.nil | refine WkL.cons (Wk.refl _) ?_ | refine WkL.cons (Wk.any _) ?_ | refine WkL.cons Wk.sla ?_ | refine WkL.cons Wk.sl ?_ | refine WkL.cons Wk.empty ?_ | refine WkL.cons (Wk.int (by omega)) ?_ | refine WkL.cons (Wk.eq (by simp [u8])) ?_)) (by first | rfl | (simp; done)))
  · obtain rfl : i = x1.length := by omega
    rw [List.take_length] at k3
    obtain ⟨a2, u2, m2, g2, c2, l2, mo⟩ := mint_good hmZ_len k2 (by omega) (key := kF) kF_len h11 h12
    have hsd2 := g2.ok.seed
    simp -implicitDefEqProofs only [↓reduceIte, go_sem, q, hsd, k4, zeros_length, symL_length, DW, eMint]
    refine ACalls.useW (by repeat (first | exact WkL.nil | refine WkL.cons (Wk.refl _) ?_ | refine WkL.cons Wk.sla ?_ | refine WkL.cons Wk.sl ?_ | refine WkL.cons Wk.empty ?_ | refine WkL.cons Wk.nil ?_ | refine WkL.cons (Wk.node (by repeat' (first | exact WkL.nil | refine WkL.cons ?_ ?_ | exact Wk.refl _ | exact Wk.sla | exact Wk.sl | exact Wk.empty | exact Wk.nil | refine Wk.node ?_))) ?_)) (c_Mint (hm := hmZ) a k2.ok (hmZ_c k2.free) 1 kF kF_len s3 _) ?_
    simp -implicitDefEqProofs only [↓reduceIte, go_sem, m2, ePR, l2, hsd2, Nat.add_assoc, zeros_length, symL_length, DW, eMint]
    refine Lock.mk ?_
    refine AM.loopX (α := Nat × Alg × By) (fun v => v.1 ≤ x3.length ∧ Good v.2.1 (20 + 2 * v.1) ∧ Chain v.2.1 kF s3 (x3.take v.1).reverse v.2.2 ∧ v.2.2.length = 32 ∧ Chain v.2.1 kF s1 x1.reverse t) (fun v => x3.length - v.1) (fun v => H ++ [.obj (eAlg v.2.1), .obj (.arr 1 (kF.map u8)), .obj (eDk d1), .obj (eDk d2), .obj (eMint s1 x1), .obj (eMint s3 x3), .obj (eDk d3), .obj (.node [1, 32] [.v (.int .i64 1), .arr 1 (kF.map u8)]), .obj (ePass ⟨1, s1, x1.take x1.length, t⟩), .obj (ePass ⟨1, s3, x3.take v.1, v.2.2⟩)]) (fun v => [.any, .any, .any, .any, .any, .any, .any, .ptr H.length [] 0, .any, .any, .ptr (H.length + 4) [] 0, .ptr (H.length + 5) [] 0, .any, .ptr (H.length + 8) [] 0, .v (.int .i64 0), .any, .ptr (H.length + 9) [] 0, .v (.int .i64 v.1), .any, .any, .any, .any, .any, .any, .any, .any, .any, .any, .any, .any, .any, .any, .any, .any, .any, .any, .any, .any, .any, .any, .any, .any, .any, .any, .any, .any, .any, .any, .any, .any, .any, .any, .any, .any, .any, .any, .any, .any, .any, .any, .any, .any, .any, .any, .any, .any, .any, .any, .any, .any, .any, .any, .any, .any, .any, .any, .any, .any, .any, .any, .any, .any, .any, .any, .any, .any, .any, .any, .any, .any, .any, .any, .any, .any, .any, .any, .any, .any, .any, .any, .any, .any, .any, .any, .any, .any, .any, .any, .any, .any, .any, .any, .any, .any, .any, .any, .any, .any, .any, .any, .any, .any, .any, .any, .any]) ((0, a2, u2)) (⟨Nat.zero_le _, ⟨g2.ok, g2.free, by have := g2.len; simp only; omega⟩, c2, l2, k3.mono mo⟩) (by repeat (first | exact WkL.nil | refine WkL.cons (Wk.refl _) ?_ | refine WkL.cons (Wk.any _) ?_ | refine WkL.cons Wk.sla ?_ | refine WkL.cons Wk.sl ?_ | refine WkL.cons Wk.empty ?_ | refine WkL.cons (Wk.int (by omega)) ?_ | refine WkL.cons (Wk.eq (by simp [u8])) ?_)) rfl ?_
    rintro ⟨j, b, u⟩ ⟨b1, b2, b3, b4, b5⟩ ih2
    simp only at b1 b2 b3 b4 b5 ih2 ⊢
    have hsb := b2.ok.seed
    refine AW.sound pd4 mixed Tryd.func4 (by rw [Tryd.results4]) 1000 ?_
    simp -implicitDefEqProofs only [↓reduceIte, go_sem, hsb, b4, zeros_length, symL_length, DW, eMint]
    refine brk.dec (fun q => ?_) (fun q => ?_)
    · have q1 : j < x3.length := by omega
      have w1 : IntKind.wrap .i64 (↑j + 1) = ((j + 1 : Nat) : Int) := by rw [wrap64 (by omega) (by omega)]; omega
      have hx := h14 _ (List.getElem_mem q1)
      have okp : (⟨1, s3, x3.take j, u⟩ : Pass).Ok := ⟨b4, by simp only [List.length_take]; omega, fun c hc => ok_len (h14 c (List.mem_of_mem_take hc))⟩
      obtain ⟨a', t', m3, g3, c3, l3, mo3⟩ := att_good hmZ_len (p := ⟨1, s3, x3.take j, u⟩) b2 (by omega) b4 (by simp only [List.length_take]; omega) hx
      have et : x3.take j ++ [x3[j]] = x3.take (j + 1) := by simp
      simp only [et] at m3
      have hsd3 := g3.ok.seed
      simp -implicitDefEqProofs only [↓reduceIte, go_sem, q1, getD_cav q1, hsb, b4, zeros_length, symL_length, DW, eMint]
      try refine ⟨Lock.ok (by decide +kernel), ?_⟩
      refine ACalls.useW (by repeat (first | exact WkL.nil | refine WkL.cons (Wk.refl _) ?_ | refine WkL.cons Wk.sla ?_ | refine WkL.cons Wk.sl ?_ | refine WkL.cons Wk.empty ?_ | refine WkL.cons Wk.nil ?_ | refine WkL.cons (Wk.node (by repeat' (first | exact WkL.nil | refine WkL.cons ?_ ?_ | exact Wk.refl _ | exact Wk.sla | exact Wk.sl | exact Wk.empty | exact Wk.nil | refine Wk.node ?_))) ?_)) (c_Attenuate (hm := hmZ) b b2.ok (hmZ_c b2.free) ⟨1, s3, x3.take j, u⟩ okp x3[j] (ok_len hx) _) ?_
      simp -implicitDefEqProofs only [↓reduceIte, go_sem, m3, ePR, l3, hsd3, w1, zeros_length, symL_length, DW, eMint]
      have cn : Chain a' kF s3 (x3.take (j + 1)).reverse t' := by
        rw [← et, List.reverse_append]
        exact .cav (b3.mono mo3) c3 hx
      refine Lock.mk (ih2 (j + 1, a', t') (⟨q1, by rw [show 20 + 2 * (j + 1) = 20 + 2 * j + 2 by omega]; exact g3, cn, l3, b5.mono mo3⟩) (by simp only; omega) _ _ (by repeat (first | exact WkL.nil | refine WkL.cons (Wk.refl _) ?_ | refine WkL.cons (Wk.any _) ?_ | refine WkL.cons Wk.sla ?_ | refine WkL.cons Wk.sl ?_ | refine WkL.cons Wk.empty ?_ | refine WkL.cons (Wk.int (by omega)) ?_ | refine WkL.cons (Wk.eq (by simp [u8])) ?_)) (by first | rfl | (simp; done)))
    · obtain rfl : j = x3.length := by omega
      rw [List.take_length] at b3
      simp -implicitDefEqProofs only [↓reduceIte, go_sem, q, hsb, b4, k4, zeros_length, symL_length, DW, eMint]
      have law : (t == u) = (s1 == s3 && cavsEq x1 x3) := by
        rw [Bool.eq_iff_iff]
        simp only [beq_iff_eq, Bool.and_eq_true, cavsEq, decide_eq_true_eq]
        constructor
        · rintro rfl
          obtain ⟨e1, e2⟩ := b5.inj b2.free (by have := b2.len; omega) (by omega) (by omega) b3
          exact ⟨e1, by simpa using e2⟩
        · rintro ⟨rfl, rfl⟩
          exact b5.fn b2.free b3
      try refine ⟨Lock.ok (by decide +kernel), ?_⟩
      refine brk.beq (fun q5 => ?_) (fun q5 => ?_)
      · simp -implicitDefEqProofs only [↓reduceIte, go_sem, q5, zeros_length, symL_length, DW, eMint]
        refine ACalls.useW (by repeat (first | exact WkL.nil | refine WkL.cons (Wk.refl _) ?_ | refine WkL.cons Wk.sla ?_ | refine WkL.cons Wk.sl ?_ | refine WkL.cons Wk.empty ?_ | refine WkL.cons Wk.nil ?_ | refine WkL.cons (Wk.node (by repeat' (first | exact WkL.nil | refine WkL.cons ?_ ?_ | exact Wk.refl _ | exact Wk.sla | exact Wk.sl | exact Wk.empty | exact Wk.nil | refine Wk.node ?_))) ?_)) (c_SameC x1 x3 (by omega) (fun c hc => by have := ok_len (h6 c hc); omega) _) ?_
        simp -implicitDefEqProofs only [↓reduceIte, go_sem, q5, zeros_length, symL_length, DW, eMint]
        refine ⟨⟨k4.symm, b4.symm⟩, ?_⟩
        rw [show (t == u) = cavsEq x1 x3 by rw [law, q5]; simp, show (cavsEq x1 x3 == cavsEq x1 x3) = true from beq_self_eq_true _]
        simp -implicitDefEqProofs only [↓reduceIte, go_sem, zeros_length, symL_length, DW, eMint]
        refine ACalls.useW (by repeat (first | exact WkL.nil | refine WkL.cons (Wk.refl _) ?_ | refine WkL.cons Wk.sla ?_ | refine WkL.cons Wk.sl ?_ | refine WkL.cons Wk.empty ?_ | refine WkL.cons Wk.nil ?_ | refine WkL.cons (Wk.node (by repeat' (first | exact WkL.nil | refine WkL.cons ?_ ?_ | exact Wk.refl _ | exact Wk.sla | exact Wk.sl | exact Wk.empty | exact Wk.nil | refine Wk.node ?_))) ?_)) (c_awake13 _) ?_
        simp -implicitDefEqProofs only [↓reduceIte, go_sem, zeros_length, symL_length, DW, eMint]
        exact .ext (.refl _) trivial
      · simp -implicitDefEqProofs only [↓reduceIte, go_sem, q5, zeros_length, symL_length, DW, eMint]
        rw [show (t == u) = false by rw [law, beq_ne q5]; rfl]
        simp -implicitDefEqProofs only [↓reduceIte, go_sem, zeros_length, symL_length, DW, eMint]
        refine ACalls.useW (by repeat (first | exact WkL.nil | refine WkL.cons (Wk.refl _) ?_ | refine WkL.cons Wk.sla ?_ | refine WkL.cons Wk.sl ?_ | refine WkL.cons Wk.empty ?_ | refine WkL.cons Wk.nil ?_ | refine WkL.cons (Wk.node (by repeat' (first | exact WkL.nil | refine WkL.cons ?_ ?_ | exact Wk.refl _ | exact Wk.sla | exact Wk.sl | exact Wk.empty | exact Wk.nil | refine Wk.node ?_))) ?_)) (c_awake13 _) ?_
        simp -implicitDefEqProofs only [↓reduceIte, go_sem, zeros_length, symL_length, DW, eMint]
        exact .ext (.refl _) trivial
theorem c_ChainFree (L1 L2 : List Int) (h1 : L1.length ≤ 9223372036854775807) (h2 : L2.length ≤ 9223372036854775807) (same : Bool) (H : List Blk) : ACalls E 4 [eInts L1, eInts L2, .v (.bool same)] H (Gives H (.v (.bool true))) := by
  cases same
  · exact c_ChainFreeF L1 L2 h1 h2 H
  · exact c_ChainFreeT L1 L2 h1 h2 H
end Go.Mc
