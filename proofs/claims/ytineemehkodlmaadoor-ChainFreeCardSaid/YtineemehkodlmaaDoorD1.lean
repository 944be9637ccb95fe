/- Contracts of functions of the program. -/
import Derived.Test.YtineemehkodlmaaDoorC4
set_option linter.all false
set_option maxRecDepth 100000
namespace Go.Mc
open Go.Proofs

theorem tmod_tmod {x n : Int} (hn : 0 < n) : (x.tmod n + n).tmod n = x % n := by
  have h1 : 0 ≤ x.tmod n + n := by have := Int.lt_tmod_of_pos x hn; omega
  rw [Int.tmod_eq_emod_of_nonneg h1, Int.add_emod_right]
  have h2 := Int.lt_tmod_of_pos x hn
  have h3 := Int.tmod_lt_of_pos x hn
  have h4 := Int.emod_nonneg x (show n ≠ 0 by omega)
  have h5 := Int.emod_lt_of_pos x hn
  rcases Int.le_total 0 x with h | h
  · rw [Int.tmod_eq_emod_of_nonneg h, Int.emod_emod]
  · have e1 : x = n * x.tdiv n + x.tmod n := (Int.mul_tdiv_add_tmod x n).symm
    conv => rhs; rw [e1]
    rw [Int.add_comm, Int.add_mul_emod_self_left]

theorem c_Within {x n : Int} (hn : 0 < n) (hb : n < 4611686018427387904) (H : List Blk) : ACalls E 32 [.v (.int .i64 x), .v (.int .i64 n)] H (Gives H (.v (.int .i64 (x % n)))) := by
  refine ACalls.tidy (by simp) (ACalls.enter Tryd.call32 Tryd.func32 rfl ?_)
  refine AW.sound nopl mixed Tryd.func32 (by rw [Tryd.results32]) 1000 ?_
  simp -implicitDefEqProofs only [↓reduceIte, go_sem, Tryd.ntmps32]
  have h1 := Int.lt_tmod_of_pos x hn
  have h2 := Int.tmod_lt_of_pos x hn
  rw [wrap64 (by omega) (by omega), tmod_tmod hn]
  exact ⟨by omega, by omega, .here (.refl _) trivial⟩

theorem c_Valid (a b : Int) (H : List Blk) : ACalls E 27 [.node [1, 1] [.v (.int .i64 a), .v (.int .i64 b)]] H (Gives H (.v (.bool (decide (0 ≤ a) && decide (a ≤ b) && decide (b ≤ 150))))) := by
  refine ACalls.tidy (by simp) (ACalls.enter Tryd.call27 Tryd.func27 rfl ?_)
  refine AW.sound nopl mixed Tryd.func27 (by rw [Tryd.results27]) 1000 ?_
  simp -implicitDefEqProofs only [↓reduceIte, go_sem, Tryd.ntmps27]
  repeat' (first | (with_reducible refine brk.not ?_) | ((with_reducible refine brk.dec (fun h => ?_) (fun h => ?_)) <;> (try simp -implicitDefEqProofs only [↓reduceIte, go_sem, h])) | ((with_reducible refine brk.beq (fun h => ?_) (fun h => ?_)) <;> (try simp -implicitDefEqProofs only [↓reduceIte, go_sem, h])) | ((with_reducible refine brk.bne (fun h => ?_) (fun h => ?_)) <;> (try simp -implicitDefEqProofs only [↓reduceIte, go_sem, h])) | ((with_reducible refine brk.mk (fun h => ?_) (fun h => ?_)) <;> (try simp -implicitDefEqProofs only [↓reduceIte, go_sem, h])))
  all_goals (refine .ext (.bool ?_) trivial; simp <;> omega)

theorem c_TermsOk (a b : Int) (H : List Blk) : ACalls E 28 [.node [1, 1] [.v (.int .i64 a), .v (.int .i64 b)]] H (Gives H (.v (.bool (decide (0 ≤ a) && decide (a ≤ b) && decide (b ≤ 150))))) := by
  refine ACalls.tidy (by simp) (ACalls.enter Tryd.call28 Tryd.func28 rfl ?_)
  refine AW.sound nopl mixed Tryd.func28 (by rw [Tryd.results28]) 1000 ?_
  simp -implicitDefEqProofs only [↓reduceIte, go_sem, Tryd.ntmps28]
  repeat' (first | (with_reducible refine brk.not ?_) | ((with_reducible refine brk.dec (fun h => ?_) (fun h => ?_)) <;> (try simp -implicitDefEqProofs only [↓reduceIte, go_sem, h])) | ((with_reducible refine brk.beq (fun h => ?_) (fun h => ?_)) <;> (try simp -implicitDefEqProofs only [↓reduceIte, go_sem, h])) | ((with_reducible refine brk.bne (fun h => ?_) (fun h => ?_)) <;> (try simp -implicitDefEqProofs only [↓reduceIte, go_sem, h])) | ((with_reducible refine brk.mk (fun h => ?_) (fun h => ?_)) <;> (try simp -implicitDefEqProofs only [↓reduceIte, go_sem, h])))
  all_goals (refine .ext (.bool ?_) trivial; simp <;> omega)

theorem c_ranges (a b : Int) (H : List Blk) : ACalls E 40 [.v (.int .i64 a), .v (.int .i64 b)] H (Gives H (.v (.bool (decide (1 ≤ a) && decide (a ≤ 1000) && decide (1 ≤ b) && decide (b ≤ 1073741824))))) := by
  refine ACalls.tidy (by simp) (ACalls.enter Tryd.call40 Tryd.func40 rfl ?_)
  refine AW.sound nopl mixed Tryd.func40 (by rw [Tryd.results40]) 1000 ?_
  simp -implicitDefEqProofs only [↓reduceIte, go_sem, Tryd.ntmps40]
  repeat' (first | (with_reducible refine brk.not ?_) | ((with_reducible refine brk.dec (fun h => ?_) (fun h => ?_)) <;> (try simp -implicitDefEqProofs only [↓reduceIte, go_sem, h])) | ((with_reducible refine brk.beq (fun h => ?_) (fun h => ?_)) <;> (try simp -implicitDefEqProofs only [↓reduceIte, go_sem, h])) | ((with_reducible refine brk.bne (fun h => ?_) (fun h => ?_)) <;> (try simp -implicitDefEqProofs only [↓reduceIte, go_sem, h])) | ((with_reducible refine brk.mk (fun h => ?_) (fun h => ?_)) <;> (try simp -implicitDefEqProofs only [↓reduceIte, go_sem, h])))
  all_goals (refine .here (.bool ?_) trivial; simp <;> omega)

theorem c_Equal (a b : List UInt8) (H : List Blk) : ACalls E 97 [.sl 1 (a.map u8) false, .sl 1 (b.map u8) false] H (Gives H (.v (.bool (a == b)))) := by
  refine ACalls.tidy (by simp) (ACalls.enter Tryd.call97 Tryd.func97 rfl ?_)
  refine AW.sound nopl mixed Tryd.func97 (by rw [Tryd.results97]) 1000 ?_
  simp -implicitDefEqProofs only [↓reduceIte, go_sem, Tryd.ntmps97]
  exact .here (.refl _) trivial

theorem c_Clone (a : List UInt8) (ha : a.length ≤ 140737488355328) (H : List Blk) : ACalls E 98 [.sl 1 (a.map u8) false] H (Gives (H ++ [.tok 1 a.length]) (.sla 1 (a.map u8) H.length)) := by
  refine ACalls.tidyT (by first | (simp; done) | rfl) (ACalls.enter Tryd.call98 Tryd.func98 rfl ?_)
  refine AW.sound nopl mixed Tryd.func98 (by rw [Tryd.results98]) 1000 ?_
  simp -implicitDefEqProofs only [↓reduceIte, go_sem, Tryd.ntmps98]
  intro b hb
  repeat' (first | (with_reducible refine brk.not ?_) | ((with_reducible refine brk.dec (fun h => ?_) (fun h => ?_)) <;> (try simp -implicitDefEqProofs only [↓reduceIte, go_sem, h])) | ((with_reducible refine brk.beq (fun h => ?_) (fun h => ?_)) <;> (try simp -implicitDefEqProofs only [↓reduceIte, go_sem, h])) | ((with_reducible refine brk.bne (fun h => ?_) (fun h => ?_)) <;> (try simp -implicitDefEqProofs only [↓reduceIte, go_sem, h])) | ((with_reducible refine brk.mk (fun h => ?_) (fun h => ?_)) <;> (try simp -implicitDefEqProofs only [↓reduceIte, go_sem, h])))
  · subst h; rw [hb rfl]; exact .full .empty trivial
  · exact ⟨by omega, .app (by simp) (lt_bytes _ _)⟩

theorem c_Clone1 (a : List UInt8) (ha : a.length ≤ 140737488355328) (H : List Blk) : ACalls E 111 [.sl 1 (a.map u8) false] H (Gives (H ++ [.tok 1 a.length]) (.sla 1 (a.map u8) H.length)) := by
  refine ACalls.tidyT (by first | (simp; done) | rfl) (ACalls.enter Tryd.call111 Tryd.func111 rfl ?_)
  refine AW.sound nopl mixed Tryd.func111 (by rw [Tryd.results111]) 1000 ?_
  simp -implicitDefEqProofs only [↓reduceIte, go_sem, Tryd.ntmps111]
  intro b hb
  repeat' (first | (with_reducible refine brk.not ?_) | ((with_reducible refine brk.dec (fun h => ?_) (fun h => ?_)) <;> (try simp -implicitDefEqProofs only [↓reduceIte, go_sem, h])) | ((with_reducible refine brk.beq (fun h => ?_) (fun h => ?_)) <;> (try simp -implicitDefEqProofs only [↓reduceIte, go_sem, h])) | ((with_reducible refine brk.bne (fun h => ?_) (fun h => ?_)) <;> (try simp -implicitDefEqProofs only [↓reduceIte, go_sem, h])) | ((with_reducible refine brk.mk (fun h => ?_) (fun h => ?_)) <;> (try simp -implicitDefEqProofs only [↓reduceIte, go_sem, h])))
  · subst h; rw [hb rfl]; exact .full .empty trivial
  · exact ⟨by omega, .app (by simp) (lt_bytes _ _)⟩

theorem c_ClipMac (l : List AV) (hl : ∀ n, AV.ltL n l) (cl : Bool) (H : List Blk) : ACalls E 80 [.sl 65 l cl] H (Gives (H ++ [.tok 65 l.length]) (.sla 65 l H.length)) := by
  refine ACalls.tidyT (by first | (simp; done) | rfl) (ACalls.enter Tryd.call80 Tryd.func80 rfl ?_)
  refine AW.sound nopl mixed Tryd.func80 (by rw [Tryd.results80]) 1000 ?_
  simp -implicitDefEqProofs only [↓reduceIte, go_sem, Tryd.ntmps80]
  exact ⟨by omega, .full (by rw [List.take_length]; exact .refl _) (hl _)⟩
theorem c_ClipSealed (l : List AV) (hl : ∀ n, AV.ltL n l) (cl : Bool) (H : List Blk) : ACalls E 81 [.sl 35 l cl] H (Gives (H ++ [.tok 35 l.length]) (.sla 35 l H.length)) := by
  refine ACalls.tidyT (by first | (simp; done) | rfl) (ACalls.enter Tryd.call81 Tryd.func81 rfl ?_)
  refine AW.sound nopl mixed Tryd.func81 (by rw [Tryd.results81]) 1000 ?_
  simp -implicitDefEqProofs only [↓reduceIte, go_sem, Tryd.ntmps81]
  exact ⟨by omega, .full (by rw [List.take_length]; exact .refl _) (hl _)⟩
theorem c_ClipCaveat (l : List AV) (hl : ∀ n, AV.ltL n l) (cl : Bool) (H : List Blk) : ACalls E 88 [.sl 10 l cl] H (Gives (H ++ [.tok 10 l.length]) (.sla 10 l H.length)) := by
  refine ACalls.tidyT (by first | (simp; done) | rfl) (ACalls.enter Tryd.call88 Tryd.func88 rfl ?_)
  refine AW.sound nopl mixed Tryd.func88 (by rw [Tryd.results88]) 1000 ?_
  simp -implicitDefEqProofs only [↓reduceIte, go_sem, Tryd.ntmps88]
  exact ⟨by omega, .full (by rw [List.take_length]; exact .refl _) (hl _)⟩

/-! equality of tags -/
@[go_sem] theorem eqok_tag {a b : List UInt8} (ha : a.length = 32) (hb : b.length = 32) : EqOk E.P 24 (.arr 1 (a.map u8)) (.arr 1 (b.map u8)) (a == b) = True :=
  eq_true (eqok_bytes (e := 5) (by kernel_rfl) (by kernel_rfl) (by kernel_rfl) (by kernel_rfl) ha hb)
end Go.Mc
