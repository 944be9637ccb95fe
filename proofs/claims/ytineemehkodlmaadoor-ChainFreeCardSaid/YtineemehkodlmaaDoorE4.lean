/- Contracts of functions of the program. -/
import Derived.Test.YtineemehkodlmaaDoorE3
set_option linter.all false
set_option maxRecDepth 100000
namespace Go.Mc
open Go.Proofs

/-- the result of an encoder -/
def eEnc (ok : Bool) (b : By) : AV := .tup [.sl 1 ((if ok then b else []).map u8) false, .v (.int .i64 (if ok then 0 else 5))]
theorem isName_len {s : By} (h : isName s = true) : s.length ≤ 16 := by
  simp only [isName, Bool.and_eq_true, decide_eq_true_eq] at h
  exact h.1.2

theorem enc1 (m : UInt64) (f t n : Int) (s : By) : eEnc true (encP ⟨1, m, f, t, s, n⟩) = .tup [.sl 1 ((numB 1 ++ be8u m).map u8) false, .v (.int .i64 0)] := by simp [eEnc, encP]
theorem enc2 (m : UInt64) (f t n : Int) (s : By) : eEnc true (encP ⟨2, m, f, t, s, n⟩) = .tup [.sl 1 ((numB 2 ++ be8u m).map u8) false, .v (.int .i64 0)] := by simp [eEnc, encP]
theorem enc3 (m : UInt64) (f t n : Int) (s : By) : eEnc true (encP ⟨3, m, f, t, s, n⟩) = .tup [.sl 1 ((numB 3 ++ be8u m).map u8) false, .v (.int .i64 0)] := by simp [eEnc, encP]
theorem enc4 (m : UInt64) (f t : Nat) (n : Int) (s : By) : eEnc true (encP ⟨4, m, f, t, s, n⟩) = .tup [.sl 1 ((numB 4 ++ (numB f ++ numB t)).map u8) false, .v (.int .i64 0)] := by simp [eEnc, encP]
theorem enc5 (m : UInt64) (f t : Nat) (n : Int) (s : By) : eEnc true (encP ⟨5, m, f, t, s, n⟩) = .tup [.sl 1 ((numB 5 ++ (numB f ++ numB t)).map u8) false, .v (.int .i64 0)] := by simp [eEnc, encP]
theorem enc6 (m : UInt64) (f t n : Int) (s : By) : eEnc true (encP ⟨6, m, f, t, s, n⟩) = .tup [.sl 1 ((numB 6 ++ fldB s).map u8) false, .v (.int .i64 0)] := by simp [eEnc, encP]
theorem enc7 (m : UInt64) (f t : Int) (n : Nat) (s : By) : eEnc true (encP ⟨7, m, f, t, s, n⟩) = .tup [.sl 1 ((numB 7 ++ numB n).map u8) false, .v (.int .i64 0)] := by simp [eEnc, encP]
theorem numB1_len {n : Nat} (h : n < 128) : (numB n).length = 1 := by rw [numB_lt h]; rfl

theorem c_PEncode (p : Pred) (H : List Blk) : ACalls E 109 [ePred p] H (Gives H (eEnc p.ok (encP p))) := by
  cases q : p.ok
  · refine ACalls.tidy (by simp) (ACalls.enter Tryd.call109 Tryd.func109 rfl ?_)
    refine AW.sound nopl mixed Tryd.func109 (by rw [Tryd.results109]) 1000 ?_
    simp -implicitDefEqProofs only [↓reduceIte, go_sem, Tryd.ntmps109]
    refine ACalls.useW (by repeat (first | exact WkL.nil | refine WkL.cons (Wk.refl _) ?_ | refine WkL.cons Wk.sla ?_ | refine WkL.cons Wk.sl ?_ | refine WkL.cons Wk.empty ?_ | refine WkL.cons Wk.nil ?_ | refine WkL.cons (Wk.node (by repeat' (first | exact WkL.nil | refine WkL.cons ?_ ?_ | exact Wk.refl _ | exact Wk.sla | exact Wk.sl | exact Wk.empty | exact Wk.nil | refine Wk.node ?_))) ?_)) (c_PValid p _) ?_
    simp -implicitDefEqProofs only [↓reduceIte, go_sem, q]
    exact .ext (by repeat' (first | exact Wk.refl _ | exact Wk.sla | exact Wk.sl | exact Wk.empty | exact Wk.nil | exact WkL.nil | refine Wk.node ?_ | refine Wk.tup ?_ | refine WkL.cons ?_ ?_)) (by simp [eEnc, AV.lt, AV.ltL])
  obtain ⟨k, m, f, t, s, n⟩ := p
  have hc := Pred.ok_cases q
  have hk : k = 1 ∨ k = 2 ∨ k = 3 ∨ k = 4 ∨ k = 5 ∨ k = 6 ∨ k = 7 := by simp only at hc; omega
  have lt : ∀ n b, (eEnc true b).lt n := fun n b => by simp [eEnc, AV.lt, AV.ltL, lt_bytes]
  obtain rfl | hk := hk
  · refine ACalls.tidy (by simp) (ACalls.enter Tryd.call109 Tryd.func109 rfl ?_)
    refine AW.sound (unr nopl) mixed Tryd.func109 (by rw [Tryd.results109]) 100000 ?_
    simp -implicitDefEqProofs only [↓reduceIte, go_sem, Tryd.ntmps109]
    refine ACalls.useW (by repeat (first | exact WkL.nil | refine WkL.cons (Wk.refl _) ?_ | refine WkL.cons Wk.sla ?_ | refine WkL.cons Wk.sl ?_ | refine WkL.cons Wk.empty ?_ | refine WkL.cons Wk.nil ?_ | refine WkL.cons (Wk.node (by repeat' (first | exact WkL.nil | refine WkL.cons ?_ ?_ | exact Wk.refl _ | exact Wk.sla | exact Wk.sl | exact Wk.empty | exact Wk.nil | refine Wk.node ?_))) ?_)) (c_PValid ⟨1, m, f, t, s, n⟩ _) ?_
    simp -implicitDefEqProofs only [↓reduceIte, go_sem, q]
    refine ACalls.useW (by repeat (first | exact WkL.nil | refine WkL.cons (Wk.refl _) ?_ | refine WkL.cons Wk.sla ?_ | refine WkL.cons Wk.sl ?_ | refine WkL.cons Wk.empty ?_ | refine WkL.cons Wk.nil ?_ | refine WkL.cons (Wk.node (by repeat' (first | exact WkL.nil | refine WkL.cons ?_ ?_ | exact Wk.refl _ | exact Wk.sla | exact Wk.sl | exact Wk.empty | exact Wk.nil | refine Wk.node ?_))) ?_)) (c_numbers1 [] 1 (by omega) (by simp) _) ?_
    simp -implicitDefEqProofs only [↓reduceIte, go_sem]
    have hl := numB1_len (n := 1) (by omega)
    rw [enc1]
    exact ⟨by omega, by omega, by omega, by omega, by omega, by omega, by omega, by omega, .ext (.tup (.cons (Wk.trans .sla (Wk.eq rfl)) (.cons (.refl _) .nil))) (by rw [← enc1 m f t n s]; exact lt _ _)⟩
  obtain rfl | hk := hk
  · refine ACalls.tidy (by simp) (ACalls.enter Tryd.call109 Tryd.func109 rfl ?_)
    refine AW.sound (unr nopl) mixed Tryd.func109 (by rw [Tryd.results109]) 100000 ?_
    simp -implicitDefEqProofs only [↓reduceIte, go_sem, Tryd.ntmps109]
    refine ACalls.useW (by repeat (first | exact WkL.nil | refine WkL.cons (Wk.refl _) ?_ | refine WkL.cons Wk.sla ?_ | refine WkL.cons Wk.sl ?_ | refine WkL.cons Wk.empty ?_ | refine WkL.cons Wk.nil ?_ | refine WkL.cons (Wk.node (by repeat' (first | exact WkL.nil | refine WkL.cons ?_ ?_ | exact Wk.refl _ | exact Wk.sla | exact Wk.sl | exact Wk.empty | exact Wk.nil | refine Wk.node ?_))) ?_)) (c_PValid ⟨2, m, f, t, s, n⟩ _) ?_
    simp -implicitDefEqProofs only [↓reduceIte, go_sem, q]
    refine ACalls.useW (by repeat (first | exact WkL.nil | refine WkL.cons (Wk.refl _) ?_ | refine WkL.cons Wk.sla ?_ | refine WkL.cons Wk.sl ?_ | refine WkL.cons Wk.empty ?_ | refine WkL.cons Wk.nil ?_ | refine WkL.cons (Wk.node (by repeat' (first | exact WkL.nil | refine WkL.cons ?_ ?_ | exact Wk.refl _ | exact Wk.sla | exact Wk.sl | exact Wk.empty | exact Wk.nil | refine Wk.node ?_))) ?_)) (c_numbers1 [] 2 (by omega) (by simp) _) ?_
    simp -implicitDefEqProofs only [↓reduceIte, go_sem]
    have hl := numB1_len (n := 2) (by omega)
    rw [enc2]
    exact ⟨by omega, by omega, by omega, by omega, by omega, by omega, by omega, by omega, .ext (.tup (.cons (Wk.trans .sla (Wk.eq rfl)) (.cons (.refl _) .nil))) (by rw [← enc2 m f t n s]; exact lt _ _)⟩
  obtain rfl | hk := hk
  · refine ACalls.tidy (by simp) (ACalls.enter Tryd.call109 Tryd.func109 rfl ?_)
    refine AW.sound (unr nopl) mixed Tryd.func109 (by rw [Tryd.results109]) 100000 ?_
    simp -implicitDefEqProofs only [↓reduceIte, go_sem, Tryd.ntmps109]
    refine ACalls.useW (by repeat (first | exact WkL.nil | refine WkL.cons (Wk.refl _) ?_ | refine WkL.cons Wk.sla ?_ | refine WkL.cons Wk.sl ?_ | refine WkL.cons Wk.empty ?_ | refine WkL.cons Wk.nil ?_ | refine WkL.cons (Wk.node (by repeat' (first | exact WkL.nil | refine WkL.cons ?_ ?_ | exact Wk.refl _ | exact Wk.sla | exact Wk.sl | exact Wk.empty | exact Wk.nil | refine Wk.node ?_))) ?_)) (c_PValid ⟨3, m, f, t, s, n⟩ _) ?_
    simp -implicitDefEqProofs only [↓reduceIte, go_sem, q]
    refine ACalls.useW (by repeat (first | exact WkL.nil | refine WkL.cons (Wk.refl _) ?_ | refine WkL.cons Wk.sla ?_ | refine WkL.cons Wk.sl ?_ | refine WkL.cons Wk.empty ?_ | refine WkL.cons Wk.nil ?_ | refine WkL.cons (Wk.node (by repeat' (first | exact WkL.nil | refine WkL.cons ?_ ?_ | exact Wk.refl _ | exact Wk.sla | exact Wk.sl | exact Wk.empty | exact Wk.nil | refine Wk.node ?_))) ?_)) (c_numbers1 [] 3 (by omega) (by simp) _) ?_
    simp -implicitDefEqProofs only [↓reduceIte, go_sem]
    have hl := numB1_len (n := 3) (by omega)
    rw [enc3]
    exact ⟨by omega, by omega, by omega, by omega, by omega, by omega, by omega, by omega, .ext (.tup (.cons (Wk.trans .sla (Wk.eq rfl)) (.cons (.refl _) .nil))) (by rw [← enc3 m f t n s]; exact lt _ _)⟩
  obtain rfl | hk := hk
  · obtain ⟨f, rfl⟩ := Int.eq_ofNat_of_zero_le (show 0 ≤ f by simp [Pred.ok] at q; omega)
    obtain ⟨t, rfl⟩ := Int.eq_ofNat_of_zero_le (show 0 ≤ t by simp [Pred.ok] at q; omega)
    have hb : f ≤ 67108864 ∧ t ≤ 67108864 := by simp [Pred.ok] at q; omega
    refine ACalls.tidy (by simp) (ACalls.enter Tryd.call109 Tryd.func109 rfl ?_)
    refine AW.sound (unr nopl) mixed Tryd.func109 (by rw [Tryd.results109]) 100000 ?_
    simp -implicitDefEqProofs only [↓reduceIte, go_sem, Tryd.ntmps109]
    refine ACalls.useW (by repeat (first | exact WkL.nil | refine WkL.cons (Wk.refl _) ?_ | refine WkL.cons Wk.sla ?_ | refine WkL.cons Wk.sl ?_ | refine WkL.cons Wk.empty ?_ | refine WkL.cons Wk.nil ?_ | refine WkL.cons (Wk.node (by repeat' (first | exact WkL.nil | refine WkL.cons ?_ ?_ | exact Wk.refl _ | exact Wk.sla | exact Wk.sl | exact Wk.empty | exact Wk.nil | refine Wk.node ?_))) ?_)) (c_PValid ⟨4, m, f, t, s, n⟩ _) ?_
    simp -implicitDefEqProofs only [↓reduceIte, go_sem, q]
    refine ACalls.useW (by repeat (first | exact WkL.nil | refine WkL.cons (Wk.refl _) ?_ | refine WkL.cons Wk.sla ?_ | refine WkL.cons Wk.sl ?_ | refine WkL.cons Wk.empty ?_ | refine WkL.cons Wk.nil ?_ | refine WkL.cons (Wk.node (by repeat' (first | exact WkL.nil | refine WkL.cons ?_ ?_ | exact Wk.refl _ | exact Wk.sla | exact Wk.sl | exact Wk.empty | exact Wk.nil | refine Wk.node ?_))) ?_)) (c_numbers1 [] 4 (by omega) (by simp) _) ?_
    simp -implicitDefEqProofs only [↓reduceIte, go_sem]
    refine ACalls.useW (by repeat (first | exact WkL.nil | refine WkL.cons (Wk.refl _) ?_ | refine WkL.cons Wk.sla ?_ | refine WkL.cons Wk.sl ?_ | refine WkL.cons Wk.empty ?_ | refine WkL.cons Wk.nil ?_ | refine WkL.cons (Wk.node (by repeat' (first | exact WkL.nil | refine WkL.cons ?_ ?_ | exact Wk.refl _ | exact Wk.sla | exact Wk.sl | exact Wk.empty | exact Wk.nil | refine Wk.node ?_))) ?_)) (c_numbers2 ([] ++ numB 4) f t (by omega) (by omega) (by rw [numB_lt (by omega)]; simp) _) ?_
    simp -implicitDefEqProofs only [↓reduceIte, go_sem]
    rw [enc4]
    exact .ext (by repeat' (first | exact Wk.refl _ | exact Wk.sla | exact Wk.sl | exact Wk.empty | exact Wk.nil | exact WkL.nil | refine Wk.node ?_ | refine Wk.tup ?_ | refine WkL.cons ?_ ?_)) (by rw [← enc4 m f t n s]; exact lt _ _)
  obtain rfl | hk := hk
  · obtain ⟨f, rfl⟩ := Int.eq_ofNat_of_zero_le (show 0 ≤ f by simp [Pred.ok] at q; omega)
    obtain ⟨t, rfl⟩ := Int.eq_ofNat_of_zero_le (show 0 ≤ t by simp [Pred.ok] at q; omega)
    have hb : f ≤ 67108864 ∧ t ≤ 67108864 := by simp [Pred.ok] at q; omega
    refine ACalls.tidy (by simp) (ACalls.enter Tryd.call109 Tryd.func109 rfl ?_)
    refine AW.sound (unr nopl) mixed Tryd.func109 (by rw [Tryd.results109]) 100000 ?_
    simp -implicitDefEqProofs only [↓reduceIte, go_sem, Tryd.ntmps109]
    refine ACalls.useW (by repeat (first | exact WkL.nil | refine WkL.cons (Wk.refl _) ?_ | refine WkL.cons Wk.sla ?_ | refine WkL.cons Wk.sl ?_ | refine WkL.cons Wk.empty ?_ | refine WkL.cons Wk.nil ?_ | refine WkL.cons (Wk.node (by repeat' (first | exact WkL.nil | refine WkL.cons ?_ ?_ | exact Wk.refl _ | exact Wk.sla | exact Wk.sl | exact Wk.empty | exact Wk.nil | refine Wk.node ?_))) ?_)) (c_PValid ⟨5, m, f, t, s, n⟩ _) ?_
    simp -implicitDefEqProofs only [↓reduceIte, go_sem, q]
    refine ACalls.useW (by repeat (first | exact WkL.nil | refine WkL.cons (Wk.refl _) ?_ | refine WkL.cons Wk.sla ?_ | refine WkL.cons Wk.sl ?_ | refine WkL.cons Wk.empty ?_ | refine WkL.cons Wk.nil ?_ | refine WkL.cons (Wk.node (by repeat' (first | exact WkL.nil | refine WkL.cons ?_ ?_ | exact Wk.refl _ | exact Wk.sla | exact Wk.sl | exact Wk.empty | exact Wk.nil | refine Wk.node ?_))) ?_)) (c_numbers1 [] 5 (by omega) (by simp) _) ?_
    simp -implicitDefEqProofs only [↓reduceIte, go_sem]
    refine ACalls.useW (by repeat (first | exact WkL.nil | refine WkL.cons (Wk.refl _) ?_ | refine WkL.cons Wk.sla ?_ | refine WkL.cons Wk.sl ?_ | refine WkL.cons Wk.empty ?_ | refine WkL.cons Wk.nil ?_ | refine WkL.cons (Wk.node (by repeat' (first | exact WkL.nil | refine WkL.cons ?_ ?_ | exact Wk.refl _ | exact Wk.sla | exact Wk.sl | exact Wk.empty | exact Wk.nil | refine Wk.node ?_))) ?_)) (c_numbers2 ([] ++ numB 5) f t (by omega) (by omega) (by rw [numB_lt (by omega)]; simp) _) ?_
    simp -implicitDefEqProofs only [↓reduceIte, go_sem]
    rw [enc5]
    exact .ext (by repeat' (first | exact Wk.refl _ | exact Wk.sla | exact Wk.sl | exact Wk.empty | exact Wk.nil | exact WkL.nil | refine Wk.node ?_ | refine Wk.tup ?_ | refine WkL.cons ?_ ?_)) (by rw [← enc5 m f t n s]; exact lt _ _)
  obtain rfl | hk := hk
  · have hb := isName_len (s := s) (by simp [Pred.ok] at q; exact q.1)
    refine ACalls.tidy (by simp) (ACalls.enter Tryd.call109 Tryd.func109 rfl ?_)
    refine AW.sound (unr nopl) mixed Tryd.func109 (by rw [Tryd.results109]) 100000 ?_
    simp -implicitDefEqProofs only [↓reduceIte, go_sem, Tryd.ntmps109]
    refine ACalls.useW (by repeat (first | exact WkL.nil | refine WkL.cons (Wk.refl _) ?_ | refine WkL.cons Wk.sla ?_ | refine WkL.cons Wk.sl ?_ | refine WkL.cons Wk.empty ?_ | refine WkL.cons Wk.nil ?_ | refine WkL.cons (Wk.node (by repeat' (first | exact WkL.nil | refine WkL.cons ?_ ?_ | exact Wk.refl _ | exact Wk.sla | exact Wk.sl | exact Wk.empty | exact Wk.nil | refine Wk.node ?_))) ?_)) (c_PValid ⟨6, m, f, t, s, n⟩ _) ?_
    simp -implicitDefEqProofs only [↓reduceIte, go_sem, q]
    refine ACalls.useW (by repeat (first | exact WkL.nil | refine WkL.cons (Wk.refl _) ?_ | refine WkL.cons Wk.sla ?_ | refine WkL.cons Wk.sl ?_ | refine WkL.cons Wk.empty ?_ | refine WkL.cons Wk.nil ?_ | refine WkL.cons (Wk.node (by repeat' (first | exact WkL.nil | refine WkL.cons ?_ ?_ | exact Wk.refl _ | exact Wk.sla | exact Wk.sl | exact Wk.empty | exact Wk.nil | refine Wk.node ?_))) ?_)) (c_numbers1 [] 6 (by omega) (by simp) _) ?_
    simp -implicitDefEqProofs only [↓reduceIte, go_sem]
    refine ACalls.useW (by repeat (first | exact WkL.nil | refine WkL.cons (Wk.refl _) ?_ | refine WkL.cons Wk.sla ?_ | refine WkL.cons Wk.sl ?_ | refine WkL.cons Wk.empty ?_ | refine WkL.cons Wk.nil ?_ | refine WkL.cons (Wk.node (by repeat' (first | exact WkL.nil | refine WkL.cons ?_ ?_ | exact Wk.refl _ | exact Wk.sla | exact Wk.sl | exact Wk.empty | exact Wk.nil | refine Wk.node ?_))) ?_)) (c_fieldAppend ([] ++ numB 6) s (by omega) (by rw [numB_lt (by omega)]; simp) _) ?_
    simp -implicitDefEqProofs only [↓reduceIte, go_sem]
    rw [enc6]
    exact .ext (by repeat' (first | exact Wk.refl _ | exact Wk.sla | exact Wk.sl | exact Wk.empty | exact Wk.nil | exact WkL.nil | refine Wk.node ?_ | refine Wk.tup ?_ | refine WkL.cons ?_ ?_)) (by rw [← enc6 m f t n s]; exact lt _ _)
  subst hk
  obtain ⟨n, rfl⟩ := Int.eq_ofNat_of_zero_le (show 0 ≤ n by simp [Pred.ok] at q; omega)
  have hb : n ≤ 1000000 := by simp [Pred.ok] at q; omega
  refine ACalls.tidy (by simp) (ACalls.enter Tryd.call109 Tryd.func109 rfl ?_)
  refine AW.sound (unr nopl) mixed Tryd.func109 (by rw [Tryd.results109]) 100000 ?_
  simp -implicitDefEqProofs only [↓reduceIte, go_sem, Tryd.ntmps109]
  refine ACalls.useW (by repeat (first | exact WkL.nil | refine WkL.cons (Wk.refl _) ?_ | refine WkL.cons Wk.sla ?_ | refine WkL.cons Wk.sl ?_ | refine WkL.cons Wk.empty ?_ | refine WkL.cons Wk.nil ?_ | refine WkL.cons (Wk.node (by repeat' (first | exact WkL.nil | refine WkL.cons ?_ ?_ | exact Wk.refl _ | exact Wk.sla | exact Wk.sl | exact Wk.empty | exact Wk.nil | refine Wk.node ?_))) ?_)) (c_PValid ⟨7, m, f, t, s, n⟩ _) ?_
  simp -implicitDefEqProofs only [↓reduceIte, go_sem, q]
  refine ACalls.useW (by repeat (first | exact WkL.nil | refine WkL.cons (Wk.refl _) ?_ | refine WkL.cons Wk.sla ?_ | refine WkL.cons Wk.sl ?_ | refine WkL.cons Wk.empty ?_ | refine WkL.cons Wk.nil ?_ | refine WkL.cons (Wk.node (by repeat' (first | exact WkL.nil | refine WkL.cons ?_ ?_ | exact Wk.refl _ | exact Wk.sla | exact Wk.sl | exact Wk.empty | exact Wk.nil | refine Wk.node ?_))) ?_)) (c_numbers1 [] 7 (by omega) (by simp) _) ?_
  simp -implicitDefEqProofs only [↓reduceIte, go_sem]
  refine ACalls.useW (by repeat (first | exact WkL.nil | refine WkL.cons (Wk.refl _) ?_ | refine WkL.cons Wk.sla ?_ | refine WkL.cons Wk.sl ?_ | refine WkL.cons Wk.empty ?_ | refine WkL.cons Wk.nil ?_ | refine WkL.cons (Wk.node (by repeat' (first | exact WkL.nil | refine WkL.cons ?_ ?_ | exact Wk.refl _ | exact Wk.sla | exact Wk.sl | exact Wk.empty | exact Wk.nil | refine Wk.node ?_))) ?_)) (c_numbers1 ([] ++ numB 7) n (by omega) (by rw [numB_lt (by omega)]; simp) _) ?_
  simp -implicitDefEqProofs only [↓reduceIte, go_sem]
  rw [enc7]
  exact .ext (by repeat' (first | exact Wk.refl _ | exact Wk.sla | exact Wk.sl | exact Wk.empty | exact Wk.nil | exact WkL.nil | refine Wk.node ?_ | refine Wk.tup ?_ | refine WkL.cons ?_ ?_)) (by rw [← enc7 m f t n s]; exact lt _ _)

theorem c_sized (b : By) (H : List Blk) : ACalls E 134 [.sl 1 (b.map u8) false] H (Gives H (.v (.bool (decide (1 ≤ b.length) && decide (b.length ≤ 1024))))) := by
  refine ACalls.tidy (by simp) (ACalls.enter Tryd.call134 Tryd.func134 rfl ?_)
  refine AW.sound nopl mixed Tryd.func134 (by rw [Tryd.results134]) 1000 ?_
  simp -implicitDefEqProofs only [↓reduceIte, go_sem, Tryd.ntmps134]
  repeat' (first | (with_reducible refine brk.not ?_) | ((with_reducible refine brk.dec (fun h => ?_) (fun h => ?_)) <;> (try simp -implicitDefEqProofs only [↓reduceIte, go_sem, h])) | ((with_reducible refine brk.beq (fun h => ?_) (fun h => ?_)) <;> (try simp -implicitDefEqProofs only [↓reduceIte, go_sem, h])) | ((with_reducible refine brk.bne (fun h => ?_) (fun h => ?_)) <;> (try simp -implicitDefEqProofs only [↓reduceIte, go_sem, h])) | ((with_reducible refine brk.mk (fun h => ?_) (fun h => ?_)) <;> (try simp -implicitDefEqProofs only [↓reduceIte, go_sem, h])))
  all_goals
    refine .here (.bool ?_) trivial
    rw [Bool.eq_iff_iff]
    simp only [decide_eq_true_eq, Bool.and_eq_true, Bool.false_eq_true]
    constructor
    · intro q; first | exact q.elim | omega
    · intro q; omega
theorem c_CValid (c : Cav) (H : List Blk) : ACalls E 115 [eCav c] H (Gives H (.v (.bool c.ok))) := by
  obtain ⟨t, p, n, x, y⟩ := c
  cases t
  · refine ACalls.tidy (by simp) (ACalls.enter Tryd.call115 Tryd.func115 rfl ?_)
    refine AW.sound nopl mixed Tryd.func115 (by rw [Tryd.results115]) 1000 ?_
    simp -implicitDefEqProofs only [↓reduceIte, go_sem, Tryd.ntmps115]
    refine ACalls.useW (by repeat (first | exact WkL.nil | refine WkL.cons (Wk.refl _) ?_ | refine WkL.cons Wk.sla ?_ | refine WkL.cons Wk.sl ?_ | refine WkL.cons Wk.empty ?_ | refine WkL.cons Wk.nil ?_ | refine WkL.cons (Wk.node (by repeat' (first | exact WkL.nil | refine WkL.cons ?_ ?_ | exact Wk.refl _ | exact Wk.sla | exact Wk.sl | exact Wk.empty | exact Wk.nil | refine Wk.node ?_))) ?_)) (c_PValid p _) ?_
    simp -implicitDefEqProofs only [↓reduceIte, go_sem]
    repeat' (first | (with_reducible refine brk.not ?_) | ((with_reducible refine brk.dec (fun h => ?_) (fun h => ?_)) <;> (try simp -implicitDefEqProofs only [↓reduceIte, go_sem, h])) | ((with_reducible refine brk.beq (fun h => ?_) (fun h => ?_)) <;> (try simp -implicitDefEqProofs only [↓reduceIte, go_sem, h])) | ((with_reducible refine brk.bne (fun h => ?_) (fun h => ?_)) <;> (try simp -implicitDefEqProofs only [↓reduceIte, go_sem, h])) | ((with_reducible refine brk.mk (fun h => ?_) (fun h => ?_)) <;> (try simp -implicitDefEqProofs only [↓reduceIte, go_sem, h])))
    all_goals
      refine .ext (.bool ?_) trivial
      rw [Bool.eq_iff_iff]
      simp [Cav.ok] at h ⊢
      try simp_all
  · obtain ⟨k, m, f, t, s, u⟩ := p
    refine ACalls.tidy (by simp) (ACalls.enter Tryd.call115 Tryd.func115 rfl ?_)
    refine AW.sound nopl mixed Tryd.func115 (by rw [Tryd.results115]) 1000 ?_
    simp -implicitDefEqProofs only [↓reduceIte, go_sem, Tryd.ntmps115]
    repeat' (first | (with_reducible refine brk.not ?_) | ((with_reducible refine brk.dec (fun h => ?_) (fun h => ?_)) <;> (try simp -implicitDefEqProofs only [↓reduceIte, go_sem, h])) | ((with_reducible refine brk.beq (fun h => ?_) (fun h => ?_)) <;> (try simp -implicitDefEqProofs only [↓reduceIte, go_sem, h])) | ((with_reducible refine brk.bne (fun h => ?_) (fun h => ?_)) <;> (try simp -implicitDefEqProofs only [↓reduceIte, go_sem, h])) | ((with_reducible refine brk.mk (fun h => ?_) (fun h => ?_)) <;> (try simp -implicitDefEqProofs only [↓reduceIte, go_sem, h])))
    · refine ACalls.useW (by repeat (first | exact WkL.nil | refine WkL.cons (Wk.refl _) ?_ | refine WkL.cons Wk.sla ?_ | refine WkL.cons Wk.sl ?_ | refine WkL.cons Wk.empty ?_ | refine WkL.cons Wk.nil ?_ | refine WkL.cons (Wk.node (by repeat' (first | exact WkL.nil | refine WkL.cons ?_ ?_ | exact Wk.refl _ | exact Wk.sla | exact Wk.sl | exact Wk.empty | exact Wk.nil | refine Wk.node ?_))) ?_)) (c_sized x _) ?_
      simp -implicitDefEqProofs only [↓reduceIte, go_sem, h]
      repeat' (first | (with_reducible refine brk.not ?_) | ((with_reducible refine brk.dec (fun h => ?_) (fun h => ?_)) <;> (try simp -implicitDefEqProofs only [↓reduceIte, go_sem, h])) | ((with_reducible refine brk.beq (fun h => ?_) (fun h => ?_)) <;> (try simp -implicitDefEqProofs only [↓reduceIte, go_sem, h])) | ((with_reducible refine brk.bne (fun h => ?_) (fun h => ?_)) <;> (try simp -implicitDefEqProofs only [↓reduceIte, go_sem, h])) | ((with_reducible refine brk.mk (fun h => ?_) (fun h => ?_)) <;> (try simp -implicitDefEqProofs only [↓reduceIte, go_sem, h])))
      · refine ACalls.useW (by repeat (first | exact WkL.nil | refine WkL.cons (Wk.refl _) ?_ | refine WkL.cons Wk.sla ?_ | refine WkL.cons Wk.sl ?_ | refine WkL.cons Wk.empty ?_ | refine WkL.cons Wk.nil ?_ | refine WkL.cons (Wk.node (by repeat' (first | exact WkL.nil | refine WkL.cons ?_ ?_ | exact Wk.refl _ | exact Wk.sla | exact Wk.sl | exact Wk.empty | exact Wk.nil | refine Wk.node ?_))) ?_)) (c_sized y _) ?_
        simp -implicitDefEqProofs only [↓reduceIte, go_sem, h]
        refine .ext (.bool ?_) trivial
        rw [Bool.eq_iff_iff]
        simp [Cav.ok, Pred.zero, hm0] at *
        simp_all
      · refine .ext (.bool ?_) trivial
        rw [Bool.eq_iff_iff]
        simp [Cav.ok, Pred.zero, hm0] at *
        omega
    all_goals
      refine .ext (.bool ?_) trivial
      rw [Bool.eq_iff_iff]
      simp [Cav.ok, Pred.zero, hm0] at *
      try simp_all
      try omega
end Go.Mc
