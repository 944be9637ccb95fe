/- Contracts of functions of the program. -/
import Derived.Test.YtineemehkodlmaaDoorE2
import Derived.Test.YtineemehkodlmaaDoorF1
set_option linter.all false
set_option maxRecDepth 100000
namespace Go.Mc
open Go.Proofs

theorem iand127 (m : Nat) (h : m ≤ 281474976710656) : iand .i64 (m : Int) 127 = ((m % 128 : Nat) : Int) := by
  unfold iand
  show IntKind.wrap .i64 ↑(BitVec.ofInt 64 (m : Int) &&& BitVec.ofInt 64 127).toNat = _
  have : (BitVec.ofInt 64 (m : Int) &&& BitVec.ofInt 64 127).toNat = m % 128 := by
    rw [BitVec.toNat_and]
    have e1 : (BitVec.ofInt 64 (m : Int)).toNat = m := by rw [BitVec.toNat_ofInt]; omega
    have e2 : (BitVec.ofInt 64 127).toNat = 2 ^ 7 - 1 := by decide
    rw [e1, e2, Nat.and_two_pow_sub_one_eq_mod]
  rw [this, wrap64 (by omega) (by omega)]
theorem ior128 (m : Nat) (h : m < 128) : ior .i64 (m : Int) 128 = ((m + 128 : Nat) : Int) := by
  unfold ior
  show IntKind.wrap .i64 ↑(BitVec.ofInt 64 (m : Int) ||| BitVec.ofInt 64 128).toNat = _
  have : (BitVec.ofInt 64 (m : Int) ||| BitVec.ofInt 64 128).toNat = m + 128 := by
    rw [BitVec.toNat_or]
    have e1 : (BitVec.ofInt 64 (m : Int)).toNat = m := by rw [BitVec.toNat_ofInt]; omega
    have e2 : (BitVec.ofInt 64 128).toNat = 2 ^ 7 * 1 := by decide
    rw [e1, e2, Nat.or_comm, ← Nat.two_pow_add_eq_or_of_lt (by omega)]; omega
  rw [this, wrap64 (by omega) (by omega)]
theorem ishr7 (m : Nat) (h : m ≤ 281474976710656) : ishr .i64 (m : Int) 7 = ((m / 128 : Nat) : Int) := by
  unfold ishr
  show Int.fdiv ↑m (2 ^ min 7 64) = _
  rw [Int.fdiv_eq_ediv_of_nonneg _ (by decide)]
  simp
theorem ofInt_nat (m : Nat) : UInt8.ofInt (m : Int) = UInt8.ofNat m := by
  apply UInt8.toNat_inj.1
  rw [UInt8.ofInt, UInt8.toNat_ofNat', UInt8.toNat_ofNat']; omega

theorem c_varAppend (b : By) (n : Nat) (hn : n ≤ 281474976710656) (hb : b.length ≤ 100000) (H : List Blk) :
    ACalls E 82 [.sl 1 (b.map u8) false, .v (.int .i64 n)] H (Gives (H ++ [.tok 1 (b ++ numB n).length]) (.tup [.sla 1 ((b ++ numB n).map u8) H.length, .v (.int .i64 0)])) := by
  refine ACalls.tidy (by simp) (ACalls.enter Tryd.call82 Tryd.func82 rfl ?_)
  refine AW.sound nopl mixed Tryd.func82 (by rw [Tryd.results82]) 1000 ?_
  simp -implicitDefEqProofs only [↓reduceIte, go_sem, Tryd.ntmps82]
  rw [show decide ((n : Int) < 0) = false by simp]
  simp -implicitDefEqProofs only [↓reduceIte, go_sem]
  refine brk.dec (fun q => by omega) (fun q => ?_)
  simp -implicitDefEqProofs only [↓reduceIte, go_sem]
  refine ACalls.useW (by repeat (first | exact WkL.nil | refine WkL.cons (Wk.refl _) ?_ | refine WkL.cons Wk.sla ?_ | refine WkL.cons Wk.sl ?_ | refine WkL.cons Wk.empty ?_ | refine WkL.cons Wk.nil ?_ | refine WkL.cons (Wk.node (by repeat' (first | exact WkL.nil | refine WkL.cons ?_ ?_ | exact Wk.refl _ | exact Wk.sla | exact Wk.sl | exact Wk.empty | exact Wk.nil | refine Wk.node ?_))) ?_)) (c_Clone1 b (by omega) _) ?_
  simp -implicitDefEqProofs only [↓reduceIte, go_sem]
  refine Lock.mk ?_
  refine AM.loopX (α := By × Nat) (fun v => v.1 ++ numB v.2 = b ++ numB n ∧ v.2 ≤ 281474976710656 ∧ v.1.length + (numB v.2).length ≤ 100100) (fun v => v.2) (fun v => H ++ [.tok 1 v.1.length]) (fun v => [.any, .v (.int .i64 v.2), .any, .any, .any, .any, .sla 1 (v.1.map u8) H.length, .any, .any, .any, .any, .any, .any, .any, .any, .any, .any, .any, .any, .any, .any, .any, .any, .any, .any, .any, .any, .any, .any, .any, .any]) ((b, n)) (⟨rfl, hn, by have := numB_length (k := 7) (n := n) (by omega); simp only; omega⟩) (by repeat (first | exact WkL.nil | refine WkL.cons (Wk.refl _) ?_ | refine WkL.cons (Wk.any _) ?_ | refine WkL.cons Wk.sla ?_ | refine WkL.cons Wk.sl ?_ | refine WkL.cons Wk.empty ?_ | refine WkL.cons (Wk.int (by omega)) ?_ | refine WkL.cons (Wk.eq (by simp [u8])) ?_)) rfl ?_
  rintro ⟨a, m⟩ ⟨h1, h2, h3⟩ ih
  simp only at h1 h2 h3 ih ⊢
  refine AW.sound nopl mixed Tryd.func82 (by rw [Tryd.results82]) 1000 ?_
  have w1 := ishr7 m h2
  have w2 := iand127 m h2
  have w3 := ior128 (m % 128) (by omega)
  simp -implicitDefEqProofs only [↓reduceIte, go_sem, w1, w2, w3, ofInt_nat]
  refine brk.dec (fun q => ?_) (fun q => ?_)
  · simp -implicitDefEqProofs only [↓reduceIte, go_sem, w1, w2, w3, ofInt_nat]
    refine ⟨by omega, ?_⟩
    have hm := numB_ge (n := m) (by omega)
    rw [hm] at h1 h3
    refine Lock.mk (ih ((a ++ [UInt8.ofNat (m % 128 + 128)], m / 128)) (⟨by simpa using h1, by simp only; omega, by simp at h3 ⊢; omega⟩) (by simp only; omega) _ _ (by repeat (first | exact WkL.nil | refine WkL.cons (Wk.refl _) ?_ | refine WkL.cons (Wk.any _) ?_ | refine WkL.cons Wk.sla ?_ | refine WkL.cons Wk.sl ?_ | refine WkL.cons Wk.empty ?_ | refine WkL.cons (Wk.int (by omega)) ?_ | refine WkL.cons (Wk.eq (by simp [u8])) ?_)) (by first | rfl | (simp; done)))
  · have hm := numB_lt (n := m) (by omega)
    rw [hm] at h1 h3
    simp -implicitDefEqProofs only [↓reduceIte, go_sem, ofInt_nat]
    refine ⟨by omega, ?_⟩
    rw [← h1, show b.length + (numB n).length = a.length + 1 by have := congrArg List.length h1; simp only [List.length_append, List.length_cons, List.length_nil] at this; omega]
    exact .here (.refl _) (by first | trivial | (simp only [go_sem]; done) | simp [AV.lt, AV.ltL, lt_bytes])

theorem c_varAppendW (b : By) (n : Nat) (hn : n ≤ 281474976710656) (hb : b.length ≤ 100000) (H : List Blk) :
    ACalls E 82 [.sl 1 (b.map u8) false, .v (.int .i64 n)] H (Gives H (.tup [.sl 1 ((b ++ numB n).map u8) false, .v (.int .i64 0)])) :=
  Gives.weak (c_varAppend b n hn hb H) (by repeat' (first | exact Wk.refl _ | exact Wk.sla | exact Wk.sl | exact Wk.empty | exact Wk.nil | exact WkL.nil | refine Wk.node ?_ | refine Wk.tup ?_ | refine WkL.cons ?_ ?_)) (by first | trivial | (simp only [go_sem]; done) | simp [AV.lt, AV.ltL, lt_bytes])

theorem c_fieldAppend (b x : By) (hx : x.length ≤ 1024) (hb : b.length ≤ 100000) (H : List Blk) :
    ACalls E 116 [.sl 1 (b.map u8) false, .sl 1 (x.map u8) false] H (Gives H (.tup [.sl 1 ((b ++ fldB x).map u8) false, .v (.int .i64 0)])) := by
  refine ACalls.tidy (by simp) (ACalls.enter Tryd.call116 Tryd.func116 rfl ?_)
  refine AW.sound nopl mixed Tryd.func116 (by rw [Tryd.results116]) 1000 ?_
  simp -implicitDefEqProofs only [↓reduceIte, go_sem, Tryd.ntmps116]
  refine brk.dec (fun q => by omega) (fun q => ?_)
  simp -implicitDefEqProofs only [↓reduceIte, go_sem]
  refine ACalls.useW (by repeat (first | exact WkL.nil | refine WkL.cons (Wk.refl _) ?_ | refine WkL.cons Wk.sla ?_ | refine WkL.cons Wk.sl ?_ | refine WkL.cons Wk.empty ?_ | refine WkL.cons Wk.nil ?_ | refine WkL.cons (Wk.node (by repeat' (first | exact WkL.nil | refine WkL.cons ?_ ?_ | exact Wk.refl _ | exact Wk.sla | exact Wk.sl | exact Wk.empty | exact Wk.nil | refine Wk.node ?_))) ?_)) (c_varAppend b x.length (by omega) (by omega) _) ?_
  simp -implicitDefEqProofs only [↓reduceIte, go_sem]
  have hl := numB_length (k := 7) (n := x.length) (by omega)
  refine ⟨by omega, ?_⟩
  rw [fldB]
  exact .ext (by repeat' (first | exact Wk.refl _ | exact Wk.sla | exact Wk.sl | exact Wk.empty | exact Wk.nil | exact WkL.nil | refine Wk.node ?_ | refine Wk.tup ?_ | refine WkL.cons ?_ ?_)) (by first | trivial | (simp only [go_sem]; done) | simp [AV.lt, AV.ltL, lt_bytes])

theorem c_numbers1 (b : By) (n : Nat) (hn : n ≤ 281474976710656) (hb : b.length ≤ 10000) (H : List Blk) :
    ACalls E 133 [.sl 1 (b.map u8) false, .sl 1 [.v (.int .i64 n)] false] H (Gives (H ++ [.tok 1 (b ++ numB n).length]) (.sla 1 ((b ++ numB n).map u8) H.length)) := by
  refine ACalls.tidyT (by first | (simp; done) | rfl) (ACalls.enter Tryd.call133 Tryd.func133 rfl ?_)
  refine AW.sound (unr nopl) mixed Tryd.func133 (by rw [Tryd.results133]) 100000 ?_
  simp -implicitDefEqProofs only [↓reduceIte, go_sem, Tryd.ntmps133]
  refine ACalls.useW (by repeat (first | exact WkL.nil | refine WkL.cons (Wk.refl _) ?_ | refine WkL.cons Wk.sla ?_ | refine WkL.cons Wk.sl ?_ | refine WkL.cons Wk.empty ?_ | refine WkL.cons Wk.nil ?_ | refine WkL.cons (Wk.node (by repeat' (first | exact WkL.nil | refine WkL.cons ?_ ?_ | exact Wk.refl _ | exact Wk.sla | exact Wk.sl | exact Wk.empty | exact Wk.nil | refine Wk.node ?_))) ?_)) (c_varAppend b n (by omega) (by omega) _) ?_
  simp -implicitDefEqProofs only [↓reduceIte, go_sem]
  exact .app (vs0 := (b ++ numB n).map u8) (by simp) (lt_bytes _ _)
theorem c_numbers2 (b : By) (n m : Nat) (hn : n ≤ 281474976710656) (hm : m ≤ 281474976710656) (hb : b.length ≤ 10000) (H : List Blk) :
    ACalls E 133 [.sl 1 (b.map u8) false, .sl 1 [.v (.int .i64 n), .v (.int .i64 m)] false] H (Gives H (.sl 1 ((b ++ numB n ++ numB m).map u8) false)) := by
  refine ACalls.tidy (by simp) (ACalls.enter Tryd.call133 Tryd.func133 rfl ?_)
  refine AW.sound (unr nopl) mixed Tryd.func133 (by rw [Tryd.results133]) 100000 ?_
  simp -implicitDefEqProofs only [↓reduceIte, go_sem, Tryd.ntmps133]
  refine ACalls.useW (by repeat (first | exact WkL.nil | refine WkL.cons (Wk.refl _) ?_ | refine WkL.cons Wk.sla ?_ | refine WkL.cons Wk.sl ?_ | refine WkL.cons Wk.empty ?_ | refine WkL.cons Wk.nil ?_ | refine WkL.cons (Wk.node (by repeat' (first | exact WkL.nil | refine WkL.cons ?_ ?_ | exact Wk.refl _ | exact Wk.sla | exact Wk.sl | exact Wk.empty | exact Wk.nil | refine Wk.node ?_))) ?_)) (c_varAppendW b n (by omega) (by omega) _) ?_
  simp -implicitDefEqProofs only [↓reduceIte, go_sem]
  have hl := numB_length (k := 7) (n := n) (by omega)
  refine ACalls.useW (by repeat (first | exact WkL.nil | refine WkL.cons (Wk.refl _) ?_ | refine WkL.cons Wk.sla ?_ | refine WkL.cons Wk.sl ?_ | refine WkL.cons Wk.empty ?_ | refine WkL.cons Wk.nil ?_ | refine WkL.cons (Wk.node (by repeat' (first | exact WkL.nil | refine WkL.cons ?_ ?_ | exact Wk.refl _ | exact Wk.sla | exact Wk.sl | exact Wk.empty | exact Wk.nil | refine Wk.node ?_))) ?_)) (c_varAppendW (b ++ numB n) m (by omega) (by rw [List.length_append]; omega) _) ?_
  simp -implicitDefEqProofs only [↓reduceIte, go_sem]
  exact .here (by repeat' (first | exact Wk.refl _ | exact Wk.sla | exact Wk.sl | exact Wk.empty | exact Wk.nil | exact WkL.nil | refine Wk.node ?_ | refine Wk.tup ?_ | refine WkL.cons ?_ ?_)) (by first | trivial | (simp only [go_sem]; done) | simp [AV.lt, AV.ltL, lt_bytes])

theorem c_pmask (m : UInt64) (n : Nat) (hn : n = 64 ∨ n = 32 ∨ n = 7) (H : List Blk) : ACalls E 105 [.v (.int .u64 m.toNat), .v (.int .i64 n)] H (Gives H (.v (.bool (decide (m ≠ 0) && decide (m.toNat < 2 ^ n))))) := by
  refine ACalls.tidy (by simp) (ACalls.enter Tryd.call105 Tryd.func105 rfl ?_)
  refine AW.sound nopl mixed Tryd.func105 (by rw [Tryd.results105]) 1000 ?_
  simp -implicitDefEqProofs only [↓reduceIte, go_sem, Tryd.ntmps105]
  have hm : ((m.toNat : Int) = 0) = (m = 0) := by
    rw [← UInt64.toNat_inj]; simp
  rcases hn with rfl | rfl | rfl
  all_goals
    repeat' (first | (with_reducible refine brk.not ?_) | ((with_reducible refine brk.dec (fun h => ?_) (fun h => ?_)) <;> (try simp -implicitDefEqProofs only [↓reduceIte, go_sem, h])) | ((with_reducible refine brk.beq (fun h => ?_) (fun h => ?_)) <;> (try simp -implicitDefEqProofs only [↓reduceIte, go_sem, h])) | ((with_reducible refine brk.bne (fun h => ?_) (fun h => ?_)) <;> (try simp -implicitDefEqProofs only [↓reduceIte, go_sem, h])) | ((with_reducible refine brk.mk (fun h => ?_) (fun h => ?_)) <;> (try simp -implicitDefEqProofs only [↓reduceIte, go_sem, h])))
  all_goals
    refine .here (.bool ?_) trivial
    simp only [ne_eq, hm] at h
    have hl := m.toNat_lt
    simp only [h]
    first
      | rfl
      | (simp only [not_false_eq_true, decide_true, Bool.true_and]
         rw [Bool.eq_iff_iff]
         simp only [beq_iff_eq, decide_eq_true_eq]
         try rw [UInt64.toNat_shiftRight, UInt64.toNat_ofNat', Nat.shiftRight_eq_div_pow]
         try simp only [Nat.reducePow, Nat.reduceMod]
         first | omega | simp; omega | (trace_state; omega))

theorem isName_take {s : By} (h : ∀ c ∈ s, 97 ≤ c.toNat ∧ c.toNat ≤ 122) (h1 : 1 ≤ s.length) (h2 : s.length ≤ 16) : isName s = true := by
  simp only [isName, Bool.and_eq_true, decide_eq_true_eq, List.all_eq_true]
  exact ⟨⟨h1, h2⟩, h⟩
theorem isName_not {s : By} {i : Nat} (hi : i < s.length) (h : ¬ (97 ≤ (s.getD i 0).toNat ∧ (s.getD i 0).toNat ≤ 122)) : isName s = false := by
  rw [Bool.eq_false_iff]
  intro q
  simp only [isName, Bool.and_eq_true, decide_eq_true_eq, List.all_eq_true] at q
  have := q.2 s[i] (List.getElem_mem hi)
  apply h
  simpa [List.getD_eq_getElem?_getD, hi] using this
@[go_sem] theorem sbyte_strS (s : By) (i : Nat) : sbyte (strS s) i = ((s.getD i 0).toNat : Int) := rfl
theorem c_pname (s : By) (H : List Blk) : ACalls E 106 [.v (.string (strS s))] H (Gives H (.v (.bool (isName s)))) := by
  refine ACalls.tidy (by simp) (ACalls.enter Tryd.call106 Tryd.func106 rfl ?_)
  refine AW.sound nopl mixed Tryd.func106 (by rw [Tryd.results106]) 1000 ?_
  simp -implicitDefEqProofs only [↓reduceIte, go_sem, Tryd.ntmps106]
  repeat' (first | (with_reducible refine brk.not ?_) | ((with_reducible refine brk.dec (fun h => ?_) (fun h => ?_)) <;> (try simp -implicitDefEqProofs only [↓reduceIte, go_sem, h])) | ((with_reducible refine brk.beq (fun h => ?_) (fun h => ?_)) <;> (try simp -implicitDefEqProofs only [↓reduceIte, go_sem, h])) | ((with_reducible refine brk.bne (fun h => ?_) (fun h => ?_)) <;> (try simp -implicitDefEqProofs only [↓reduceIte, go_sem, h])) | ((with_reducible refine brk.mk (fun h => ?_) (fun h => ?_)) <;> (try simp -implicitDefEqProofs only [↓reduceIte, go_sem, h])))
  · refine .here (.bool ?_) trivial
    simp [isName]; omega
  · refine .here (.bool ?_) trivial
    simp [isName]; omega
  · refine Lock.mk ?_
    refine AM.loopX (α := Nat) (fun i => i ≤ s.length ∧ ∀ j, j < i → 97 ≤ (s.getD j 0).toNat ∧ (s.getD j 0).toNat ≤ 122) (fun i => s.length - i) (fun _ => H) (fun i => [.v (.string (strS s)), .any, .any, .any, .any, .any, .any, .any, .any, .any, .any, .any, .any, .v (.int .i64 s.length), .v (.int .i64 i), .any, .any, .any, .any, .any, .any, .any, .any, .any, .any, .any, .any, .any]) (0) (⟨by omega, fun j h => by omega⟩) (by repeat (first | exact WkL.nil | refine WkL.cons (Wk.refl _) ?_ | refine WkL.cons (Wk.any _) ?_ | refine WkL.cons Wk.sla ?_ | refine WkL.cons Wk.sl ?_ | refine WkL.cons Wk.empty ?_ | refine WkL.cons (Wk.int (by omega)) ?_ | refine WkL.cons (Wk.eq (by simp [u8])) ?_)) rfl ?_
    rintro i ⟨h1, h2⟩ ih
    refine AW.sound nopl mixed Tryd.func106 (by rw [Tryd.results106]) 1000 ?_
    simp -implicitDefEqProofs only [↓reduceIte, go_sem]
    refine brk.dec (fun q => ?_) (fun q => ?_)
    · have q1 : i < s.length := by omega
      have w1 : IntKind.wrap .i64 (↑i + 1) = ((i + 1 : Nat) : Int) := by rw [wrap64 (by omega) (by omega)]; omega
      simp -implicitDefEqProofs only [↓reduceIte, go_sem, q1, w1]
      refine brk.not (brk.dec (fun q2 => ?_) (fun q2 => ?_))
      · simp -implicitDefEqProofs only [↓reduceIte, go_sem, q2]
        exact .here (.bool (isName_not q1 (by omega)).symm) trivial
      · simp -implicitDefEqProofs only [↓reduceIte, go_sem, q2, w1, q1]
        refine brk.dec (fun q3 => ?_) (fun q3 => ?_)
        · simp -implicitDefEqProofs only [↓reduceIte, go_sem]
          exact .here (.bool (isName_not q1 (by omega)).symm) trivial
        · simp -implicitDefEqProofs only [↓reduceIte, go_sem, w1]
          have hn : ∀ j, j < i + 1 → 97 ≤ (s.getD j 0).toNat ∧ (s.getD j 0).toNat ≤ 122 := by
            intro j hj
            rcases Nat.lt_or_ge j i with h | h
            · exact h2 j h
            · obtain rfl : j = i := by omega
              exact ⟨by omega, by omega⟩
          refine Lock.mk (ih (i + 1) (⟨by omega, hn⟩) (by omega) _ _ (by repeat (first | exact WkL.nil | refine WkL.cons (Wk.refl _) ?_ | refine WkL.cons (Wk.any _) ?_ | refine WkL.cons Wk.sla ?_ | refine WkL.cons Wk.sl ?_ | refine WkL.cons Wk.empty ?_ | refine WkL.cons (Wk.int (by omega)) ?_ | refine WkL.cons (Wk.eq (by simp [u8])) ?_)) (by first | rfl | (simp; done)))
    · simp -implicitDefEqProofs only [↓reduceIte, go_sem]
      refine .here (.bool (isName_take (fun c hc => ?_) (by omega) (by omega)).symm) trivial
      obtain ⟨j, hj, rfl⟩ := List.mem_iff_getElem.1 hc
      have := h2 j (by omega)
      simpa [List.getD_eq_getElem?_getD, hj] using this

theorem hm0 (m : UInt64) : (m.toNat = 0) = (m = 0) := by
  rw [← UInt64.toNat_inj]; simp
theorem c_PValid1 (m : UInt64) (f t n : Int) (s : By) (H : List Blk) : ACalls E 71 [ePred ⟨1, m, f, t, s, n⟩] H (Gives H (.v (.bool (⟨1, m, f, t, s, n⟩ : Pred).ok))) := by
  refine ACalls.tidy (by simp) (ACalls.enter Tryd.call71 Tryd.func71 rfl ?_)
  refine AW.sound pd71 mixed Tryd.func71 (by rw [Tryd.results71]) 1000 ?_
  simp -implicitDefEqProofs only [↓reduceIte, go_sem, Tryd.ntmps71]
  try refine ⟨Lock.ok (by decide +kernel), ?_⟩
  refine ⟨by decide, ?_⟩
  rw [show (bTab.map fun n => AV.v (.int .i64 n)).getD 1 .undef = .v (.int .i64 ((64 : Nat) : Int)) from rfl]
  simp -implicitDefEqProofs only [↓reduceIte, go_sem]
  refine ACalls.useW (by repeat (first | exact WkL.nil | refine WkL.cons (Wk.refl _) ?_ | refine WkL.cons Wk.sla ?_ | refine WkL.cons Wk.sl ?_ | refine WkL.cons Wk.empty ?_ | refine WkL.cons Wk.nil ?_ | refine WkL.cons (Wk.node (by repeat' (first | exact WkL.nil | refine WkL.cons ?_ ?_ | exact Wk.refl _ | exact Wk.sla | exact Wk.sl | exact Wk.empty | exact Wk.nil | refine Wk.node ?_))) ?_)) (c_pmask m 64 (by simp) _) ?_
  simp -implicitDefEqProofs only [↓reduceIte, go_sem]
  repeat' (first | (with_reducible refine brk.not ?_) | ((with_reducible refine brk.dec (fun h => ?_) (fun h => ?_)) <;> (try simp -implicitDefEqProofs only [↓reduceIte, go_sem, h])) | ((with_reducible refine brk.beq (fun h => ?_) (fun h => ?_)) <;> (try simp -implicitDefEqProofs only [↓reduceIte, go_sem, h])) | ((with_reducible refine brk.bne (fun h => ?_) (fun h => ?_)) <;> (try simp -implicitDefEqProofs only [↓reduceIte, go_sem, h])) | ((with_reducible refine brk.mk (fun h => ?_) (fun h => ?_)) <;> (try simp -implicitDefEqProofs only [↓reduceIte, go_sem, h])))
  all_goals
    refine .ext (.bool ?_) trivial
    rw [Bool.eq_iff_iff]
    simp [Pred.ok, mBits, hm0 m] at h ⊢
    first | (intro a b; have := h a; omega) | (try simp_all)

theorem c_PValid2 (m : UInt64) (f t n : Int) (s : By) (H : List Blk) : ACalls E 71 [ePred ⟨2, m, f, t, s, n⟩] H (Gives H (.v (.bool (⟨2, m, f, t, s, n⟩ : Pred).ok))) := by
  refine ACalls.tidy (by simp) (ACalls.enter Tryd.call71 Tryd.func71 rfl ?_)
  refine AW.sound pd71 mixed Tryd.func71 (by rw [Tryd.results71]) 1000 ?_
  simp -implicitDefEqProofs only [↓reduceIte, go_sem, Tryd.ntmps71]
  try refine ⟨Lock.ok (by decide +kernel), ?_⟩
  refine ⟨by decide, ?_⟩
  rw [show (bTab.map fun n => AV.v (.int .i64 n)).getD 2 .undef = .v (.int .i64 ((32 : Nat) : Int)) from rfl]
  simp -implicitDefEqProofs only [↓reduceIte, go_sem]
  refine ACalls.useW (by repeat (first | exact WkL.nil | refine WkL.cons (Wk.refl _) ?_ | refine WkL.cons Wk.sla ?_ | refine WkL.cons Wk.sl ?_ | refine WkL.cons Wk.empty ?_ | refine WkL.cons Wk.nil ?_ | refine WkL.cons (Wk.node (by repeat' (first | exact WkL.nil | refine WkL.cons ?_ ?_ | exact Wk.refl _ | exact Wk.sla | exact Wk.sl | exact Wk.empty | exact Wk.nil | refine Wk.node ?_))) ?_)) (c_pmask m 32 (by simp) _) ?_
  simp -implicitDefEqProofs only [↓reduceIte, go_sem]
  repeat' (first | (with_reducible refine brk.not ?_) | ((with_reducible refine brk.dec (fun h => ?_) (fun h => ?_)) <;> (try simp -implicitDefEqProofs only [↓reduceIte, go_sem, h])) | ((with_reducible refine brk.beq (fun h => ?_) (fun h => ?_)) <;> (try simp -implicitDefEqProofs only [↓reduceIte, go_sem, h])) | ((with_reducible refine brk.bne (fun h => ?_) (fun h => ?_)) <;> (try simp -implicitDefEqProofs only [↓reduceIte, go_sem, h])) | ((with_reducible refine brk.mk (fun h => ?_) (fun h => ?_)) <;> (try simp -implicitDefEqProofs only [↓reduceIte, go_sem, h])))
  all_goals
    refine .ext (.bool ?_) trivial
    rw [Bool.eq_iff_iff]
    simp [Pred.ok, mBits, hm0 m] at h ⊢
    first | (intro a b; have := h a; omega) | (try simp_all)

theorem c_PValid3 (m : UInt64) (f t n : Int) (s : By) (H : List Blk) : ACalls E 71 [ePred ⟨3, m, f, t, s, n⟩] H (Gives H (.v (.bool (⟨3, m, f, t, s, n⟩ : Pred).ok))) := by
  refine ACalls.tidy (by simp) (ACalls.enter Tryd.call71 Tryd.func71 rfl ?_)
  refine AW.sound pd71 mixed Tryd.func71 (by rw [Tryd.results71]) 1000 ?_
  simp -implicitDefEqProofs only [↓reduceIte, go_sem, Tryd.ntmps71]
  try refine ⟨Lock.ok (by decide +kernel), ?_⟩
  refine ⟨by decide, ?_⟩
  rw [show (bTab.map fun n => AV.v (.int .i64 n)).getD 3 .undef = .v (.int .i64 ((7 : Nat) : Int)) from rfl]
  simp -implicitDefEqProofs only [↓reduceIte, go_sem]
  refine ACalls.useW (by repeat (first | exact WkL.nil | refine WkL.cons (Wk.refl _) ?_ | refine WkL.cons Wk.sla ?_ | refine WkL.cons Wk.sl ?_ | refine WkL.cons Wk.empty ?_ | refine WkL.cons Wk.nil ?_ | refine WkL.cons (Wk.node (by repeat' (first | exact WkL.nil | refine WkL.cons ?_ ?_ | exact Wk.refl _ | exact Wk.sla | exact Wk.sl | exact Wk.empty | exact Wk.nil | refine Wk.node ?_))) ?_)) (c_pmask m 7 (by simp) _) ?_
  simp -implicitDefEqProofs only [↓reduceIte, go_sem]
  repeat' (first | (with_reducible refine brk.not ?_) | ((with_reducible refine brk.dec (fun h => ?_) (fun h => ?_)) <;> (try simp -implicitDefEqProofs only [↓reduceIte, go_sem, h])) | ((with_reducible refine brk.beq (fun h => ?_) (fun h => ?_)) <;> (try simp -implicitDefEqProofs only [↓reduceIte, go_sem, h])) | ((with_reducible refine brk.bne (fun h => ?_) (fun h => ?_)) <;> (try simp -implicitDefEqProofs only [↓reduceIte, go_sem, h])) | ((with_reducible refine brk.mk (fun h => ?_) (fun h => ?_)) <;> (try simp -implicitDefEqProofs only [↓reduceIte, go_sem, h])))
  all_goals
    refine .ext (.bool ?_) trivial
    rw [Bool.eq_iff_iff]
    simp [Pred.ok, mBits, hm0 m] at h ⊢
    first | (intro a b; have := h a; omega) | (try simp_all)

theorem c_PValid4 (m : UInt64) (f t n : Int) (s : By) (H : List Blk) : ACalls E 71 [ePred ⟨4, m, f, t, s, n⟩] H (Gives H (.v (.bool (⟨4, m, f, t, s, n⟩ : Pred).ok))) := by
  refine ACalls.tidy (by simp) (ACalls.enter Tryd.call71 Tryd.func71 rfl ?_)
  refine AW.sound pd71 mixed Tryd.func71 (by rw [Tryd.results71]) 1000 ?_
  simp -implicitDefEqProofs only [↓reduceIte, go_sem, Tryd.ntmps71]
  try refine ⟨Lock.ok (by decide +kernel), ?_⟩
  repeat' (first | (with_reducible refine brk.not ?_) | ((with_reducible refine brk.dec (fun h => ?_) (fun h => ?_)) <;> (try simp -implicitDefEqProofs only [↓reduceIte, go_sem, h])) | ((with_reducible refine brk.beq (fun h => ?_) (fun h => ?_)) <;> (try simp -implicitDefEqProofs only [↓reduceIte, go_sem, h])) | ((with_reducible refine brk.bne (fun h => ?_) (fun h => ?_)) <;> (try simp -implicitDefEqProofs only [↓reduceIte, go_sem, h])) | ((with_reducible refine brk.mk (fun h => ?_) (fun h => ?_)) <;> (try simp -implicitDefEqProofs only [↓reduceIte, go_sem, h])))
  all_goals
    refine .ext (.bool ?_) trivial
    rw [Bool.eq_iff_iff]
    simp [Pred.ok, hm0 m]
    try simp_all [hm0]
    try omega

theorem c_PValid5 (m : UInt64) (f t n : Int) (s : By) (H : List Blk) : ACalls E 71 [ePred ⟨5, m, f, t, s, n⟩] H (Gives H (.v (.bool (⟨5, m, f, t, s, n⟩ : Pred).ok))) := by
  refine ACalls.tidy (by simp) (ACalls.enter Tryd.call71 Tryd.func71 rfl ?_)
  refine AW.sound pd71 mixed Tryd.func71 (by rw [Tryd.results71]) 1000 ?_
  simp -implicitDefEqProofs only [↓reduceIte, go_sem, Tryd.ntmps71]
  try refine ⟨Lock.ok (by decide +kernel), ?_⟩
  repeat' (first | (with_reducible refine brk.not ?_) | ((with_reducible refine brk.dec (fun h => ?_) (fun h => ?_)) <;> (try simp -implicitDefEqProofs only [↓reduceIte, go_sem, h])) | ((with_reducible refine brk.beq (fun h => ?_) (fun h => ?_)) <;> (try simp -implicitDefEqProofs only [↓reduceIte, go_sem, h])) | ((with_reducible refine brk.bne (fun h => ?_) (fun h => ?_)) <;> (try simp -implicitDefEqProofs only [↓reduceIte, go_sem, h])) | ((with_reducible refine brk.mk (fun h => ?_) (fun h => ?_)) <;> (try simp -implicitDefEqProofs only [↓reduceIte, go_sem, h])))
  all_goals
    refine .ext (.bool ?_) trivial
    rw [Bool.eq_iff_iff]
    simp [Pred.ok, hm0 m]
    try simp_all [hm0]
    try omega

theorem c_PValid6 (m : UInt64) (f t n : Int) (s : By) (H : List Blk) : ACalls E 71 [ePred ⟨6, m, f, t, s, n⟩] H (Gives H (.v (.bool (⟨6, m, f, t, s, n⟩ : Pred).ok))) := by
  refine ACalls.tidy (by simp) (ACalls.enter Tryd.call71 Tryd.func71 rfl ?_)
  refine AW.sound pd71 mixed Tryd.func71 (by rw [Tryd.results71]) 1000 ?_
  simp -implicitDefEqProofs only [↓reduceIte, go_sem, Tryd.ntmps71]
  try refine ⟨Lock.ok (by decide +kernel), ?_⟩
  refine ACalls.useW (by repeat (first | exact WkL.nil | refine WkL.cons (Wk.refl _) ?_ | refine WkL.cons Wk.sla ?_ | refine WkL.cons Wk.sl ?_ | refine WkL.cons Wk.empty ?_ | refine WkL.cons Wk.nil ?_ | refine WkL.cons (Wk.node (by repeat' (first | exact WkL.nil | refine WkL.cons ?_ ?_ | exact Wk.refl _ | exact Wk.sla | exact Wk.sl | exact Wk.empty | exact Wk.nil | refine Wk.node ?_))) ?_)) (c_pname s _) ?_
  simp -implicitDefEqProofs only [↓reduceIte, go_sem]
  repeat' (first | (with_reducible refine brk.not ?_) | ((with_reducible refine brk.dec (fun h => ?_) (fun h => ?_)) <;> (try simp -implicitDefEqProofs only [↓reduceIte, go_sem, h])) | ((with_reducible refine brk.beq (fun h => ?_) (fun h => ?_)) <;> (try simp -implicitDefEqProofs only [↓reduceIte, go_sem, h])) | ((with_reducible refine brk.bne (fun h => ?_) (fun h => ?_)) <;> (try simp -implicitDefEqProofs only [↓reduceIte, go_sem, h])) | ((with_reducible refine brk.mk (fun h => ?_) (fun h => ?_)) <;> (try simp -implicitDefEqProofs only [↓reduceIte, go_sem, h])))
  all_goals
    refine .ext (.bool ?_) trivial
    rw [Bool.eq_iff_iff]
    simp [Pred.ok, hm0 m]
    try simp_all [hm0]
    try omega

theorem c_PValid7 (m : UInt64) (f t n : Int) (s : By) (H : List Blk) : ACalls E 71 [ePred ⟨7, m, f, t, s, n⟩] H (Gives H (.v (.bool (⟨7, m, f, t, s, n⟩ : Pred).ok))) := by
  refine ACalls.tidy (by simp) (ACalls.enter Tryd.call71 Tryd.func71 rfl ?_)
  refine AW.sound pd71 mixed Tryd.func71 (by rw [Tryd.results71]) 1000 ?_
  simp -implicitDefEqProofs only [↓reduceIte, go_sem, Tryd.ntmps71]
  try refine ⟨Lock.ok (by decide +kernel), ?_⟩
  repeat' (first | (with_reducible refine brk.not ?_) | ((with_reducible refine brk.dec (fun h => ?_) (fun h => ?_)) <;> (try simp -implicitDefEqProofs only [↓reduceIte, go_sem, h])) | ((with_reducible refine brk.beq (fun h => ?_) (fun h => ?_)) <;> (try simp -implicitDefEqProofs only [↓reduceIte, go_sem, h])) | ((with_reducible refine brk.bne (fun h => ?_) (fun h => ?_)) <;> (try simp -implicitDefEqProofs only [↓reduceIte, go_sem, h])) | ((with_reducible refine brk.mk (fun h => ?_) (fun h => ?_)) <;> (try simp -implicitDefEqProofs only [↓reduceIte, go_sem, h])))
  all_goals
    refine .ext (.bool ?_) trivial
    rw [Bool.eq_iff_iff]
    simp [Pred.ok, hm0 m]
    try simp_all [hm0]
    try omega

theorem c_PValid0 (k : Int) (m : UInt64) (f t n : Int) (s : By) (hk : k < 1 ∨ 7 < k) (H : List Blk) : ACalls E 71 [ePred ⟨k, m, f, t, s, n⟩] H (Gives H (.v (.bool false))) := by
  have e1 : (k == 1) = false := by simp; omega
  have e2 : (k == 2) = false := by simp; omega
  have e3 : (k == 3) = false := by simp; omega
  have e4 : (k == 4) = false := by simp; omega
  have e5 : (k == 5) = false := by simp; omega
  have e6 : (k == 6) = false := by simp; omega
  have e7 : (k == 7) = false := by simp; omega

  refine ACalls.tidy (by simp) (ACalls.enter Tryd.call71 Tryd.func71 rfl ?_)
  refine AW.sound pd71 mixed Tryd.func71 (by rw [Tryd.results71]) 1000 ?_
  simp -implicitDefEqProofs only [↓reduceIte, go_sem, Tryd.ntmps71, e1, e2, e3, e4, e5, e6, e7]
  exact .ext (.refl _) trivial
theorem c_PValid (p : Pred) (H : List Blk) : ACalls E 71 [ePred p] H (Gives H (.v (.bool p.ok))) := by
  obtain ⟨k, m, f, t, s, n⟩ := p
  by_cases h : k < 1 ∨ 7 < k
  · have : (⟨k, m, f, t, s, n⟩ : Pred).ok = false := by
      simp only [Pred.ok]
      rw [if_neg (by omega), if_neg (by omega), if_neg (by omega), if_neg (by omega), if_neg (by omega)]
    rw [this]
    exact c_PValid0 k m f t n s h H
  · obtain rfl | rfl | rfl | rfl | rfl | rfl | rfl : k = 1 ∨ k = 2 ∨ k = 3 ∨ k = 4 ∨ k = 5 ∨ k = 6 ∨ k = 7 := by omega
    · exact c_PValid1 ..
    · exact c_PValid2 ..
    · exact c_PValid3 ..
    · exact c_PValid4 ..
    · exact c_PValid5 ..
    · exact c_PValid6 ..
    · exact c_PValid7 ..
end Go.Mc
