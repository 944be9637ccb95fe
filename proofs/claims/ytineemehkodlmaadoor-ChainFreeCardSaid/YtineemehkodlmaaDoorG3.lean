/- The statement ChainFree: in a free algebra two chains have the same last tag only if they have the same key, serial number and caveats; for every input, in every world that holds the two tables. -/
import Derived.Test.YtineemehkodlmaaDoorG2
set_option linter.all false
set_option maxRecDepth 100000
namespace Go.Proofs.YtineemehkodlmaaDoor.chainFree
open Go Go.Mc Go.Lib Go.ChangeShapes Go.WideShapes Go.RowKit Go.ChangeAt Go.Proofs

theorem own : ownKnob Tryd.prog.godebug = none := by kernel_rfl
def fill (vs : Array Value) : Obj → Obj
  | .cells _ t frozen => .cells vs t frozen
  | o => o
def laidHeap (h : Array Obj) : Array Obj := (h.modify 0 (fill (bTab.map fun z => Value.int .i64 z).toArray)).modify 1 (fill (kTab.map fun x => Value.int .u32 (x.toNat : Int)).toArray)
/-- A world for the witness: the two tables hold what their initialisers lay. -/
noncomputable def laidWorld (os : Os) : World :=
  { World.holding Tryd.prog os ⟨#[], #[], []⟩ with heap := laidHeap (World.holding Tryd.prog os ⟨#[], #[], []⟩).heap }
theorem laid_met (os : Os) : laidMet Tryd.prog Rows.chainFreeRow.laid ((laidWorld os).forCall (fun _ _ => 0) ⟨#[], #[.slice none 0 0, .slice none 0 0, .bool false], []⟩).memory :=
  laidMet_of_run' 65 (by kernel_rfl) (by kernel_rfl)
theorem reads (os : Os) {H : Type} (enc : TypeId × Value → H) : ∃ places, DataW.whole enc Tryd.prog ((laidWorld os).forCall (fun _ _ => 0) ⟨#[], #[.slice none 0 0, .slice none 0 0, .bool false], []⟩).memory Tryd.f4.params.toList Rows.chainFreeSpec.vars false #[Value.slice none 0 0, .slice none 0 0, .bool false].toList 8 = some ([.nil, .nil, .lit (.bool false)], [], places) :=
  ⟨[], by kernel_rfl⟩

theorem lifted (os : Os) (started : os.Started) (H : Type) (enc : TypeId × Value → H) (F : Stop.Interp) :
    ReturnsInHanded {} Tryd.checked os 4 .any ((OpenSpec.ofChange Rows.chainFreeSpec).preRow enc Tryd.prog Tryd.f4 Rows.chainFreeRow.domain false Rows.chainFreeRow.laid) (((OpenSpec.ofChange Rows.chainFreeSpec).at F).post enc Tryd.prog Tryd.f4 false true false false) := by
  obtain ⟨places, hx⟩ := reads os enc
  refine returnsInHanded_of_row (C := Tryd.checked) (s := OpenSpec.ofChange Rows.chainFreeSpec) own started (by kernel_rfl) Tryd.func4
    (witness_row_at (enc := enc) (C := Tryd.checked) false (laidWorld os) #[.slice none 0 0, .slice none 0 0, .bool false] rfl (by kernel_rfl) (by kernel_rfl) (by kernel_rfl)
      (OpenSpec.preRow_of_cond 8 hx (by kernel_rfl) (fun k hk => by cases hk) (by kernel_rfl) (laid_met os))) ?_
  intro W base args ds gs before hval hW _ _ _ hL _ _
  exact contract H enc W base args ds gs before hval hW hL

theorem said : Rows.ChainFreeSaid :=
  OpenClaim.holds_of_cond 4 Tryd.f4 rfl rfl rfl rfl rfl rfl rfl ⟨rfl, rfl, rfl, rfl, rfl⟩ rfl rfl rfl rfl rfl (by kernel_rfl) Tryd.func4 (by kernel_rfl)
    (of_decide_eq_true (by kernel_rfl)) (by unfold Func.isWrapper; first | (rw [if_pos (by decide +kernel)]; kernel_rfl) | (rw [if_neg (by decide +kernel)]; exact ⟨rfl, rfl⟩))
    (fun os started H enc _ F => by rw [OpenClaim.pre_eq_preRow]; exact lifted os started H enc F)

theorem plain (f : FuncId) (fn : Func) (hf : Tryd.pinned.checked.prog.funcNamed "macaroon/macaroonlaw13.ChainFree" = some f) (hfn : Tryd.pinned.checked.prog.funcs[f]? = some fn) :
    true = Tryd.pinned.checked.prog.looks [] ∧ ∀ (j : Nat) t, fn.params[j]? = some t → Tryd.pinned.checked.prog.wantsStandIn t = false := by
  obtain rfl : f = 4 := Option.some.inj ((show Tryd.prog.funcNamed "macaroon/macaroonlaw13.ChainFree" = some 4 by kernel_rfl).symm.trans hf) |>.symm
  obtain rfl : fn = Tryd.f4 := (Option.some.inj (Tryd.func4.symm.trans hfn)).symm
  refine ⟨by kernel_rfl, fun j t ht => ?_⟩
  rw [Tryd.params4] at ht
  have hm : t = 22 ∨ t = 4 := by simpa using Array.mem_of_getElem? ht
  rcases hm with rfl | rfl
  · exact (show Tryd.prog.wantsStandIn 22 = false by kernel_rfl)
  · exact (show Tryd.prog.wantsStandIn 4 = false by kernel_rfl)
end Go.Proofs.YtineemehkodlmaaDoor.chainFree
namespace Go.Proofs.YtineemehkodlmaaDoor
/-- In a free algebra two chains have the same last tag only if they have the same key, serial number and caveats. -/
theorem chainFree_holds : Rows.ChainFreeCardSaid :=
  Claim7.holds_tied_plain_at .later [] _ _ _ _ chainFree.said (fun _ h => by cases h) (by kernel_rfl) (fun _ h => by cases h) chainFree_row_tie rfl ⟨rfl, rfl⟩ (by kernel_rfl) rfl chainFree.plain (by kernel_rfl)
end Go.Proofs.YtineemehkodlmaaDoor
#print axioms Go.Proofs.YtineemehkodlmaaDoor.chainFree_holds
