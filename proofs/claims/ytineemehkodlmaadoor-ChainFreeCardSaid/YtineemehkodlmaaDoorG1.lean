/- The statement ChainFree: in a free algebra two chains have the same last tag only if they have the same key, serial number and caveats; for every input, in every world that holds the two tables. -/
import Derived.Test.YtineemehkodlmaaDoorE9
import Derived.Test.YtineemehkodlmaaDoorCards
import Derived.Test.YtineemehkodlmaaDoorTie
import Derived.WalkKit
import Derived.ProofKit
import Derived.OpenShut
import Derived.Deep.DeepHandedRow
import Derived.Lib.LaidTab
import Derived.Carry
import Derived.ChangeSlices
set_option linter.all false
set_option maxRecDepth 100000
namespace Go.Mc
open Go.Proofs Go.Lib Go.ChangeShapes Go.WideShapes Go.RowKit

/-- the ghost of a world in which nothing is tracked yet: old memory is not written -/
def G0 (W : World) : Ghost := { base := W, mem := fun b o => if b < W.heap.size then W.cell? ⟨b, o, none⟩ else none, bl := fun _ => none, rv := fun _ _ => none, ow := fun _ => none }
theorem cell_lt {W : World} {b o : Nat} {v : Value} (h : W.cell? ⟨b, o, none⟩ = some v) : b < W.heap.size := by
  simp only [World.cell?] at h
  cases e : W.heap[b]? with
  | none => simp [e] at h
  | some x => exact (Array.getElem?_eq_some_iff.1 e).1
theorem G0_mem {W : World} {b o : Nat} {v : Value} (h : W.cell? ⟨b, o, none⟩ = some v) : (G0 W).mem b o = some v := by
  simp only [G0, cell_lt h, if_true, h]

theorem tabIs_second {P : Program} {W : World} {y : String × DataW Unit} {name : String} {k : IntKind} {zs : List Int} {rest : List (String × DataW Unit)} {g : Nat} {t e : TypeId} {n : Nat}
    (hg : P.globalNamed name = some g) (hty : (P.globals[g]?).map (·.type) = some t) (ht : P.underlying t = some (.array n e)) (he : P.underlying e = some (.int k)) (hce : P.cellsOf e = 1) (hct : P.cellsOf t = n)
    (h : laidMet P (y :: (name, tabData k zs) :: rest) W) : TabIs P W name k zs := by
  obtain ⟨ps, ⟨_, _, _, _, _, _, _, _, _, _, ⟨g', t', cs, fuel, p, q, hg', ht', hvar, hd, _, _⟩, _⟩, _⟩ := h
  obtain rfl := Option.some.inj (hg.symm.trans hg')
  obtain rfl := Option.some.inj (hty.symm.trans ht')
  unfold TabIs
  rw [hvar, ← cells_of_tab ht he hce hct hd]

theorem tabVal {W : World} {g : Nat} {P : Program} {name : String} {k : IntKind} {zs : List Int} (h : TabIs P W name k zs) (hg : P.globalNamed name = some g) (i : Nat) (hi : i < ((zs.map fun z => Value.int k z).toArray).size) :
    (G0 W).mem g i = some ((zs.map fun z => Value.int k z).toArray)[i] := by
  have hi' : i < zs.length := by simpa using hi
  rw [G0_mem (h.cell hg i hi')]
  simp [List.getD_eq_getElem?_getD, hi']
theorem ints_val {G : Ghost} (k : IntKind) : ∀ zs : List Int, ValU G 1 (zs.map fun z => AV.v (.int k z)) (zs.map fun z => Value.int k z)
  | [] => .nil
  | z :: zs => by
    have := ValU.cons (G := G) (sz := 1) (x := .int k z) (.v rfl) ⟨rfl, fun c hc => by simp [Value.cells] at hc; subst hc; rfl⟩ (ints_val k zs)
    simpa [Value.cells] using this

/-- a world that holds the two tables -/
theorem st0 {W : World} (h : laidMetH Tryd.prog Proofs.YtineemehkodlmaaDoor.Rows.chainFreeRow.laid W) : St E.gl (G0 W) [] W := by
  have e1 : laidMetH Tryd.prog Proofs.YtineemehkodlmaaDoor.Rows.chainFreeRow.laid W = laidMet Tryd.prog Proofs.YtineemehkodlmaaDoor.Rows.chainFreeRow.laid W := rfl
  have e2 : Proofs.YtineemehkodlmaaDoor.Rows.chainFreeRow.laid = [("macaroon/sha.k", tabData .u32 (kTab.map fun x => (x.toNat : Int))), ("macaroon/predicate.bits", tabData .i64 bTab)] := by kernel_rfl
  rw [e1, e2] at h
  have hk : TabIs Tryd.prog W "macaroon/sha.k" .u32 (kTab.map fun x => (x.toNat : Int)) :=
    tabIs_of_head (zs := kTab.map fun x => (x.toNat : Int)) (g := 1) (t := 191) (e := 177) (n := 64) (by kernel_rfl) (by kernel_rfl) Tryd.underlying191 (by kernel_rfl) (by kernel_rfl) (by kernel_rfl) h
  have hb : TabIs Tryd.prog W "macaroon/predicate.bits" .i64 bTab :=
    tabIs_second (g := 0) (t := 162) (e := 3) (n := 8) (by kernel_rfl) (by kernel_rfl) Tryd.underlying162 (by kernel_rfl) (by kernel_rfl) (by kernel_rfl) h
  refine ⟨Below.refl _ _, ?_, ⟨fun k b e => by simp [G0] at e, fun k i s e => by simp [G0] at e⟩, fun k b e => by simp [G0] at e, fun k k' b e => by simp [G0] at e, fun k B e => by simp at e, fun k B e => by simp at e, ?_⟩
  · intro b o v e
    simp only [G0] at e
    split at e
    · exact e
    · simp at e
  · intro g a e
    change glT g = some a at e
    unfold glT at e
    split at e
    · cases e
      exact ⟨by simp [AV.lt, lt_i64], .agg (bTab.map fun z => Value.int .i64 z).toArray, .arr (ints_val .i64 bTab), fun i hi => tabVal hb (by kernel_rfl) i hi⟩
    · cases e
      refine ⟨by simp [AV.lt, AV.ltL_iff, u32], .agg ((kTab.map fun x => (x.toNat : Int)).map fun z => Value.int .u32 z).toArray, .arr ?_, fun i hi => tabVal hk (by kernel_rfl) i hi⟩
      have := ints_val (G := G0 W) .u32 (kTab.map fun x => (x.toNat : Int))
      rw [List.map_map] at this
      exact this
    · simp at e
end Go.Mc
