/- Contracts of functions of the program. -/
import Derived.Test.YtineemehkodlmaaDoorC5
import Derived.Test.YtineemehkodlmaaDoorD1
set_option linter.all false
set_option maxRecDepth 100000
namespace Go.Mc
open Go.Proofs

theorem clipMac (l : List AV) (hl : ∀ n, AV.ltL n l) (cl : Bool) (H : List Blk) : ACalls E 80 [.sl 65 l cl] H (Gives H (.sl 65 l true)) := by
  refine ACalls.tidy (by simp) (ACalls.enter Tryd.call80 Tryd.func80 rfl ?_)
  refine AW.sound nopl mixed Tryd.func80 (by rw [Tryd.results80]) 1000 ?_
  simp -implicitDefEqProofs only [↓reduceIte, go_sem, Tryd.ntmps80]
  exact ⟨by omega, .here (by rw [List.take_length]; exact .refl _) (hl _)⟩
theorem clipSealed (l : List AV) (hl : ∀ n, AV.ltL n l) (cl : Bool) (H : List Blk) : ACalls E 81 [.sl 35 l cl] H (Gives H (.sl 35 l true)) := by
  refine ACalls.tidy (by simp) (ACalls.enter Tryd.call81 Tryd.func81 rfl ?_)
  refine AW.sound nopl mixed Tryd.func81 (by rw [Tryd.results81]) 1000 ?_
  simp -implicitDefEqProofs only [↓reduceIte, go_sem, Tryd.ntmps81]
  exact ⟨by omega, .here (by rw [List.take_length]; exact .refl _) (hl _)⟩

/-- the algebra with full rows -/
def eAlgF (a : Alg) : AV := .node [1, 32, 1, 1, 1] [.v (.bool a.free), .arr 1 (a.seed.map u8), .v (.int .i64 a.fresh), .sl 65 (a.macs.map eMac) true, .sl 35 (a.boxes.map eSealed) true]
attribute [go_sem] eAlgF

theorem c_Begin (a : Alg) (ha : a.seed.length = 32) (H : List Blk) : ACalls E 41 [eAlg a] H (Gives (H ++ [.obj (eAlgF a), .tok 65 a.macs.length, .tok 35 a.boxes.length, .obj (eMk ⟨a, 0⟩ (H.length + 1) (H.length + 2))]) (.ptr (H.length + 3) [] 0)) := by
  refine ACalls.tidy (by simp) (ACalls.enter Tryd.call41 Tryd.func41 rfl ?_)
  refine AW.sound (stopAt 2 pd41) mixed Tryd.func41 (by rw [Tryd.results41]) 1000 ?_
  simp -implicitDefEqProofs only [↓reduceIte, go_sem, Tryd.ntmps41]
  try refine ⟨Lock.ok (by decide +kernel), ?_⟩
  refine ACalls.use (clipMac _ (fun n => ltL_map eMac_lt n _) _ _) ?_
  simp -implicitDefEqProofs only [↓reduceIte, go_sem]
  refine ACalls.use (clipSealed _ (fun n => ltL_map eSealed_lt n _) _ _) ?_
  simp -implicitDefEqProofs only [↓reduceIte, go_sem]
  refine Lock.mk ?_
  refine AW.sound pd41 mixed Tryd.func41 (by rw [Tryd.results41]) 2 ?_
  simp -implicitDefEqProofs only [↓reduceIte, go_sem, ha]
  refine AM.tokenN (j := 11) (i := 3) rfl rfl ?_
  simp -implicitDefEqProofs only [↓reduceIte, go_sem]
  refine AM.tokenN (j := 11) (i := 4) rfl rfl ?_
  simp -implicitDefEqProofs only [↓reduceIte, go_sem]
  refine AW.sound pd41 mixed Tryd.func41 (by rw [Tryd.results41]) 1000 ?_
  simp -implicitDefEqProofs only [↓reduceIte, go_sem]
  exact .here (.refl _) (by simp [AV.lt])

theorem c_Done {W : List Blk} {k t1 t2 : Nat} {m : Mk} (h : MkAt W k t1 t2 m) : ACalls E 44 [.ptr k [] 0] W (Gives W (.tup [if m.e = 0 then eAlg m.a else z30, .v (.int .i64 m.e)])) := by
  have hk := h.obj
  have hl := h.lt
  refine ACalls.tidy (by simp) (ACalls.enter Tryd.call44 Tryd.func44 rfl ?_)
  refine AW.sound pd44 mixed Tryd.func44 (by rw [Tryd.results44]) 1000 ?_
  simp -implicitDefEqProofs only [↓reduceIte, go_sem, Tryd.ntmps44]
  simp -implicitDefEqProofs only [↓reduceIte, go_sem, hgetL hl.1, hk]
  refine brk.bne (fun q => ?_) (fun q => ?_)
  · simp -implicitDefEqProofs only [↓reduceIte, go_sem, hgetL hl.1, hk, q]
    try refine ⟨Lock.ok (by decide +kernel), ?_⟩
    exact .ext (.refl _) (by simp only [go_sem, z30])
  · simp -implicitDefEqProofs only [↓reduceIte, go_sem, hgetL hl.1, hk, q, hl.2.1, hl.2.2]
    exact (.ext (.tup (.cons (.node (.cons (.refl _) (.cons (.refl _) (.cons (.refl _) (.cons .sla (.cons .sla .nil)))))) (.cons (.refl _) .nil))) (by simp only [go_sem]))

theorem c_Fail {W : List Blk} {k t1 t2 : Nat} {m : Mk} (h : MkAt W k t1 t2 m) (e : Int) : ACalls E 72 [.ptr k [] 0, .v (.int .i64 e)] W (Gives (MkPut W k t1 t2 ⟨m.a, if m.e = 0 then e else m.e⟩) (.tup [])) := by
  have hk := h.obj
  refine ACalls.tidy (by rw [MkPut.len]; exact Nat.le_refl _) (ACalls.enter Tryd.call72 Tryd.func72 rfl ?_)
  refine AW.sound nopl mixed Tryd.func72 (by rw [Tryd.results72]) 1000 ?_
  simp -implicitDefEqProofs only [↓reduceIte, go_sem, hk, Tryd.ntmps72]
  refine brk.beq (fun q => ?_) (fun q => ?_)
  · simp -implicitDefEqProofs only [↓reduceIte, go_sem, hk, q]
    have := h.set (m' := ⟨m.a, e⟩) rfl rfl
    simp only [go_sem] at this
    rw [this]
    exact ⟨⟨h.d1, h.d2⟩, .here (.refl _) (by simp only [go_sem])⟩
  · simp -implicitDefEqProofs only [↓reduceIte, go_sem, hk, q]
    rw [show (⟨m.a, m.e⟩ : Mk) = m from rfl, h.same]
    exact .here (.refl _) (by simp only [go_sem])

theorem c_Symbol (kind : UInt8) (n : Int) (H : List Blk) : ACalls E 49 [.v (.int .u8 kind.toNat), .v (.int .i64 n)] H (Gives H (.arr 1 ((symL kind n).map u8))) := by
  refine ACalls.tidy (by simp) (ACalls.enter Tryd.call49 Tryd.func49 rfl ?_)
  refine AW.sound (unr nopl) mixed Tryd.func49 (by rw [Tryd.results49]) 100000 ?_
  simp -implicitDefEqProofs only [↓reduceIte, go_sem, Tryd.ntmps49]
  exact .ext (.eq rfl) (lt_bytes _ _)

theorem c_Eight (x : UInt64) (H : List Blk) : ACalls E 61 [.v (.int .u64 x.toNat)] H (Gives (H ++ [.tok 1 8]) (.sla 1 ((be8u x).map u8) H.length)) := by
  refine ACalls.tidyT (by first | (simp; done) | rfl) (ACalls.enter Tryd.call61 Tryd.func61 rfl ?_)
  refine AW.sound (unr nopl) mixed Tryd.func61 (by rw [Tryd.results61]) 100000 ?_
  simp -implicitDefEqProofs only [↓reduceIte, go_sem, Tryd.ntmps61]
  exact .app (vs0 := (be8u x).map u8) rfl (lt_bytes _ _)

theorem c_boxnumber (n : Int) (H : List Blk) : ACalls E 92 [.v (.int .i64 n)] H (Gives (H ++ [.tok 1 8]) (.sla 1 ((be8 n).map u8) H.length)) := by
  refine ACalls.tidyT (by first | (simp; done) | rfl) (ACalls.enter Tryd.call92 Tryd.func92 rfl ?_)
  refine AW.sound (unr nopl) mixed Tryd.func92 (by rw [Tryd.results92]) 100000 ?_
  simp -implicitDefEqProofs only [↓reduceIte, go_sem, Tryd.ntmps92]
  exact .app (vs0 := (be8 n).map u8) rfl (lt_bytes _ _)
theorem c_refSymbol (kind : UInt8) (n : Int) (h0 : 0 ≤ n) (H : List Blk) : ACalls E 50 [.v (.int .u8 kind.toNat), .v (.int .i64 n)] H (Gives H (.arr 1 ((symL kind n).map u8))) := by
  refine ACalls.tidy (by simp) (ACalls.enter Tryd.call50 Tryd.func50 rfl ?_)
  refine AW.sound pd50 mixed Tryd.func50 (by rw [Tryd.results50]) 1000 ?_
  simp -implicitDefEqProofs only [↓reduceIte, go_sem, Tryd.ntmps50]
  try refine ⟨Lock.ok (by decide +kernel), ?_⟩
  rw [wrap64u]
  refine ACalls.use (c_Eight _ _) ?_
  rw [be8_eq]
  simp -implicitDefEqProofs only [↓reduceIte, go_sem]
  exact ⟨by show (7 + 8 : Nat) ≤ _; omega, rfl, rfl, rfl, .ext (.eq rfl) (lt_bytes _ _)⟩
end Go.Mc
