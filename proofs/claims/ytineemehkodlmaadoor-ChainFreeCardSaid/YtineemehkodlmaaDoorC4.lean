/- Laws of bytes, numbers and heaps for the walks. -/
import Derived.Test.YtineemehkodlmaaDoorC3
set_option linter.all false
namespace Go.Mc
/-- a slice that may be appended to, with its token -/
def GivesT (H : List Blk) (sz : Nat) (vs0 : List AV) : List Blk → Res → Prop := fun H2 e =>
  GivesW (H ++ [.tok sz vs0.length]) (.sla sz vs0 H.length) H2 e ∨ GivesW H (.sl sz vs0 true) H2 e
theorem ACalls.tidyT {E : Prg} {f : FuncId} {avs : List AV} {H : List Blk} {sz n : Nat} {vs0 : List AV} (hn : n = vs0.length) (h : ACalls E f avs H (GivesT H sz vs0)) : ACalls E f avs H (Gives (H ++ [.tok sz n]) (.sla sz vs0 H.length)) := by
  subst hn
  refine ⟨h.able, fun G w vs hs hv => (h.run G w vs hs hv).mono fun e w' p => ?_⟩
  obtain ⟨G', H1, r1, h1, h2, h3, h4, h5⟩ := p
  rcases h5 with h5 | h5
  · exact Post.tidy (by simp) ⟨G', H1, r1, h1, h2, h3, h4, h5⟩
  · obtain ⟨a, rfl, hw, hl, ht, hlt⟩ := h5
    cases h4 with
    | ret hv' =>
      have hs' := h3.drop hl
      rw [ht] at hs'
      have hv2 := (hw _ _ hv').cut hlt
      obtain ⟨G2, q1, q2, q3⟩ := hs'.tok_shared hv2 rfl
      exact ⟨G2, _, .ret _, by simp, (h2.trans (Ext.cut (Nat.le_refl _) G' w')).trans (q2 _ (Nat.le_refl _)), q1, .ret q3, rfl, rfl⟩
theorem GivesT.app {H : List Blk} {sz n : Nat} {vs0 : List AV} (hn : n = vs0.length) (hl : AV.ltL H.length vs0) : GivesT H sz vs0 (H ++ [.tok sz n]) (.ret (.sla sz vs0 H.length)) := by
  subst hn; exact
  .inl (.here (.refl _) ⟨by simp, AV.ltL_mono (by simp) _ hl⟩)
theorem GivesT.full {H : List Blk} {sz : Nat} {vs0 : List AV} {r : AV} (h : Wk r (.sl sz vs0 true)) (hl : AV.ltL H.length vs0) : GivesT H sz vs0 H (.ret r) := .inr (.here h (by simpa [AV.lt] using hl))
attribute [go_sem] exists_eq_left exists_eq_left' exists_eq_right exists_eq_right' or_true true_or or_false false_or List.map_eq_nil_iff
end Go.Mc
namespace Go.Mc
theorem lt_bytes (n : Nat) (l : List UInt8) : AV.ltL n (l.map u8) := by rw [ltL_u8]; trivial
theorem ltL_map {α : Type} {f : α → AV} (h : ∀ x n, (f x).lt n) (n : Nat) (l : List α) : AV.ltL n (l.map f) := by
  refine (AV.ltL_iff n _).2 fun a ha => ?_
  obtain ⟨x, -, rfl⟩ := List.mem_map.1 ha
  exact h x n
end Go.Mc
