/- Laws of bytes, numbers and heaps for the walks. -/
import Derived.Test.YtineemehkodlmaaDoorC2
import Derived.DeepKeys
import Derived.Laws.StructEq
set_option linter.all false
set_option maxRecDepth 100000
namespace Go.Mc
open Go.Proofs

/-- the model's '==' of two values, behind the guard -/
theorem eqok_of {P : Program} {t : TypeId} {a b : AV} {r : Bool} (hg : P.eqGuardType P.depth t = false)
    (h : ∀ (G : Ghost) (w : World) (x y : Value), Val G a x → Val G b y → ∃ xs ys, x = .agg xs ∧ y = .agg ys ∧ (Go.Op.equalIn 10000 t (.agg xs) (.agg ys)).run P w = .ok r w) : EqOk P t a b r := by
  intro G w x y xo yo hx hy
  obtain ⟨xs, ys, rfl, rfl, hr⟩ := h G w x y hx hy
  simp only [Sem.run_bind, run_eqGuard_agg w .eql t xo yo xs ys hg, run_eqGuard_agg w .neq t xo yo xs ys hg, Result.andThen_ok, run_eql_struct, run_neq_struct, hr, and_self]

theorem bytes_val {G : Ghost} {l : List UInt8} {x : Value} (h : Val G (.arr 1 (l.map u8)) x) : x = .agg (l.map fun b => Value.int .u8 b.toNat).toArray := by
  cases h with
  | arr hu =>
    have := allB_cells hu (by have := allB_map l; simpa using this)
    rw [this]
    congr 2
    simp [u8, numAV]

theorem eqItems_bytes {P : Program} {w : World} {e : TypeId} (d : Nat) (he : P.underlying e = some (.int .u8)) (hc : P.cellsOf e = 1) (a b : List UInt8) :
    ∀ is : List Nat, (∀ i ∈ is, i < a.length ∧ i < b.length) →
      (Go.Op.eqItems (d + 1) e (P.cellsOf e) (a.map fun b => Value.int .u8 b.toNat).toArray (b.map fun b => Value.int .u8 b.toNat).toArray is).run P w = .ok (is.all fun i => a.getD i 0 == b.getD i 0) w
  | [], _ => rfl
  | i :: is, h => by
    have hi := h i (List.mem_cons_self ..)
    have ih := eqItems_bytes (w := w) d he hc a b is fun j hj => h j (List.mem_cons_of_mem _ hj)
    have hagg : (isAgg e).run P w = .ok false w := by
      simp only [isAgg, Sem.run_bind, run_underlying he, Result.andThen]
      rfl
    have hp : ∀ (l : List UInt8), i < l.length → (part e (l.map fun b => Value.int .u8 b.toNat).toArray (i * P.cellsOf e)).run P w = .ok (.int .u8 (l.getD i 0).toNat) w := by
      intro l hl
      simp [part, Sem.run_bind, hagg, hc, hl, List.getD_eq_getElem?_getD]
    simp only [Go.Op.eqItems, Sem.run_bind, hp a hi.1, hp b hi.2, Result.andThen_ok]
    rw [Go.run_equalIn_int w d e .u8 .u8 _ _ he]
    simp only [Result.andThen_ok, List.all_cons]
    have hb : (((a.getD i 0).toNat : Int) == ((b.getD i 0).toNat : Int)) = (a.getD i 0 == b.getD i 0) := by
      rw [Bool.eq_iff_iff]
      simp only [beq_iff_eq]
      exact ⟨fun q => UInt8.toNat_inj.1 (by omega), fun q => by rw [q]⟩
    rw [hb]
    cases a.getD i 0 == b.getD i 0
    · simp
    · simpa using ih

theorem all_range_eq : ∀ {a b : List UInt8}, a.length = b.length → ((List.range a.length).all fun i => a.getD i 0 == b.getD i 0) = (a == b) := by
  intro a b hl
  rw [Bool.eq_iff_iff]
  simp only [List.all_eq_true, List.mem_range, beq_iff_eq]
  constructor
  · intro h
    apply List.ext_getElem hl
    intro i h1 h2
    have := h i h1
    simpa [List.getD_eq_getElem?_getD, h1, h2] using this
  · rintro rfl i _; rfl

theorem eqok_bytes {P : Program} {t e : TypeId} {n : Nat} (hg : P.eqGuardType P.depth t = false) (ht : P.underlying t = some (.array n e)) (he : P.underlying e = some (.int .u8)) (hc : P.cellsOf e = 1) {a b : List UInt8} (ha : a.length = n) (hb : b.length = n) :
    EqOk P t (.arr 1 (a.map u8)) (.arr 1 (b.map u8)) (a == b) := by
  refine eqok_of hg fun G w x y hx hy => ⟨_, _, bytes_val hx, bytes_val hy, ?_⟩
  obtain ⟨i, hi⟩ := info_of_underlying he
  rw [show (10000 : Nat) = 9998 + 1 + 1 from rfl, Go.run_equalIn_array w (9998 + 1) _ _ ht hi, eqItems_bytes 9998 he hc a b _ (by intro i hi; simp at hi; omega)]
  rw [← ha, all_range_eq (by omega)]

theorem leavesL_map (l : List UInt8) : AV.leavesL (l.map u8) = l.map u8 := by
  induction l with
  | nil => rfl
  | cons x l ih => simp only [List.map_cons, AV.leavesL, ih]; simp [u8, AV.leaves]
@[go_sem] theorem eqB_bytes (a b : List UInt8) : eqB (.arr 1 (a.map u8)) (.arr 1 (b.map u8)) = (a == b) := by
  simp only [eqB, AV.leaves, leavesL_map, List.length_map]
  rw [Bool.eq_iff_iff]
  simp only [Bool.and_eq_true, beq_iff_eq, List.all_eq_true]
  constructor
  · rintro ⟨hl, h⟩
    apply List.ext_getElem hl
    intro i h1 h2
    have := h (u8 a[i], u8 b[i]) (by
      rw [List.mem_iff_getElem]
      exact ⟨i, by simp; omega, by simp⟩)
    simp only [leafEq, u8, beq_iff_eq] at this
    exact UInt8.toNat_inj.1 (by omega)
  · rintro rfl
    refine ⟨rfl, fun q hq => ?_⟩
    obtain ⟨i, hi, rfl⟩ := List.mem_iff_getElem.1 hq
    simp [leafEq, u8]
end Go.Mc
