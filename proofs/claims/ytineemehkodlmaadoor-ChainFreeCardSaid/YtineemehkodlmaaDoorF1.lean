/- Equality of structs of scalars. -/
import Derived.Test.YtineemehkodlmaaDoorE1
set_option linter.all false
set_option maxRecDepth 100000
namespace Go.Mc
open Go.Proofs
theorem part_one {P : Program} {w : World} {e : TypeId} {d : TypeDesc} (he : P.underlying e = some d) (hd : isTree d = false) (xs : List Value) (i : Nat) (x : Value) (hx : xs[i]? = some x) : (part e xs.toArray i).run P w = .ok x w := by
  have hagg : (isAgg e).run P w = .ok false w := run_isAgg' (by rw [tkind, he]; simp [hd])
  simp [part, Sem.run_bind, hagg, hx]
def fproj (f : Field) : String × TypeId × Nat := (f.name, f.type, f.offset)
theorem eqF_nil {P : Program} {w : World} {d : Nat} {xs ys : Array Value} (fs : List Field) (hfs : fs.map fproj = []) : (Go.Op.eqFields d xs ys fs).run P w = .ok true w := by
  obtain rfl : fs = [] := by simpa using hfs
  rfl
theorem eqF_cons {P : Program} {w : World} {d : Nat} {xs ys : List Value} {nm : String} {ty : TypeId} {off : Nat} {ls : List (String × TypeId × Nat)} {td : TypeDesc} {x y : Value} {r s : Bool} (hn : nm ≠ "_") (he : P.underlying ty = some td) (hd : isTree td = false)
    (hx : xs[off]? = some x) (hy : ys[off]? = some y) (hr : (Go.Op.equalIn d ty x y).run P w = .ok r w) (hs : ∀ fs : List Field, fs.map fproj = ls → (Go.Op.eqFields d xs.toArray ys.toArray fs).run P w = .ok s w) (fs : List Field) (hfs : fs.map fproj = (nm, ty, off) :: ls) :
    (Go.Op.eqFields d xs.toArray ys.toArray fs).run P w = .ok (r && s) w := by
  cases fs with
  | nil => simp at hfs
  | cons f fs =>
    simp only [List.map_cons, List.cons.injEq, fproj, Prod.mk.injEq] at hfs
    obtain ⟨⟨rfl, rfl, rfl⟩, h4⟩ := hfs
    simp only [Go.Op.eqFields, hn, ne_eq, not_false_eq_true, if_true, Sem.run_bind, part_one he hd _ _ _ hx, part_one he hd _ _ _ hy, Result.andThen_ok, hr]
    cases r
    · rfl
    · simpa using hs fs h4

/-- the values of scalars -/
theorem flat_val {G : Ghost} : ∀ {ws : List Nat} {vs cs : List Value}, ValN G ws (vs.map AV.v) cs → cs = vs
  | _, [], _, h => by cases h; rfl
  | _, v :: vs, _, h => by
    cases h with
    | cons h1 h2 h3 =>
      have := flat_val h3
      cases h1 with
      | v q => subst this; rw [cells_of_one q]; rfl
theorem eqok_flat {P : Program} {t : TypeId} {ws : List Nat} (ls : List (String × TypeId × Nat)) (hg : P.eqGuardType P.depth t = false) (hu : P.underlying t = some (.struct (P.fieldsOf t))) (hp : P.stoodInHeld t = false) (hf : (P.fieldsOf t).toList.map fproj = ls) (vs us : List Value) (r : Bool)
    (h : ∀ w (fs : List Field), fs.map fproj = ls → (Go.Op.eqFields (9998 + 1) vs.toArray us.toArray fs).run P w = .ok r w) : EqOk P t (.node ws (vs.map .v)) (.node ws (us.map .v)) r := by
  refine eqok_of hg fun G w x y hx hy => ?_
  cases hx with | node hx => cases hy with | node hy =>
  refine ⟨_, _, rfl, rfl, ?_⟩
  rw [flat_val hx, flat_val hy, show (10000 : Nat) = 9999 + 1 from rfl, run_equalIn_struct w 9999 t _ _ hu hp]
  exact h w _ hf

theorem eqok_pred (k m f t n k' m' f' t' n' : Int) (s s' : ByteArray) : EqOk E.P 54 (.node [1, 1, 1, 1, 1, 1] [.v (.int .i64 k), .v (.int .u64 m), .v (.int .i64 f), .v (.int .i64 t), .v (.string s), .v (.int .i64 n)])
    (.node [1, 1, 1, 1, 1, 1] [.v (.int .i64 k'), .v (.int .u64 m'), .v (.int .i64 f'), .v (.int .i64 t'), .v (.string s'), .v (.int .i64 n')]) (k == k' && (m == m' && (f == f' && (t == t' && (s.toList == s'.toList && (n == n' && true)))))) := by
  refine eqok_flat [("Kind", 3, 0), ("Mask", 52, 1), ("From", 3, 2), ("To", 3, 3), ("Name", 9, 4), ("Number", 3, 5)] (by kernel_rfl) (by kernel_rfl) (by kernel_rfl) (by kernel_rfl) [.int .i64 k, .int .u64 m, .int .i64 f, .int .i64 t, .string s, .int .i64 n] [.int .i64 k', .int .u64 m', .int .i64 f', .int .i64 t', .string s', .int .i64 n'] _ fun w => ?_
  refine eqF_cons (by decide) Tryd.underlying3 rfl rfl rfl (run_equalIn_int w 9998 _ _ _ _ _ Tryd.underlying3) ?_
  refine eqF_cons (by decide) Tryd.underlying52 rfl rfl rfl (run_equalIn_int w 9998 _ _ _ _ _ Tryd.underlying52) ?_
  refine eqF_cons (by decide) Tryd.underlying3 rfl rfl rfl (run_equalIn_int w 9998 _ _ _ _ _ Tryd.underlying3) ?_
  refine eqF_cons (by decide) Tryd.underlying3 rfl rfl rfl (run_equalIn_int w 9998 _ _ _ _ _ Tryd.underlying3) ?_
  refine eqF_cons (by decide) Tryd.underlying9 rfl rfl rfl (run_equalIn_string w 9998 _ _ _ Tryd.underlying9) ?_
  refine eqF_cons (by decide) Tryd.underlying3 rfl rfl rfl (run_equalIn_int w 9998 _ _ _ _ _ Tryd.underlying3) ?_
  exact eqF_nil
@[go_sem] theorem eqok_pred' (k m f t n k' m' f' t' n' : Int) (s s' : ByteArray) (r : Bool) (h : r = (k == k' && (m == m' && (f == f' && (t == t' && (s.toList == s'.toList && (n == n' && true))))))) : EqOk E.P 54 (.node [1, 1, 1, 1, 1, 1] [.v (.int .i64 k), .v (.int .u64 m), .v (.int .i64 f), .v (.int .i64 t), .v (.string s), .v (.int .i64 n)])
    (.node [1, 1, 1, 1, 1, 1] [.v (.int .i64 k'), .v (.int .u64 m'), .v (.int .i64 f'), .v (.int .i64 t'), .v (.string s'), .v (.int .i64 n')]) r = True := eq_true (by subst h; exact eqok_pred _ _ _ _ _ _ _ _ _ _ _ _)
@[go_sem] theorem eqB_pred (ws ws' : List Nat) (k m f t n k' m' f' t' n' : Int) (s s' : ByteArray) (a1 a2 a3 a4 a5 b1 b2 b3 b4 b5 : IntKind) : eqB (.node ws [.v (.int a1 k), .v (.int a2 m), .v (.int a3 f), .v (.int a4 t), .v (.string s), .v (.int a5 n)])
    (.node ws' [.v (.int b1 k'), .v (.int b2 m'), .v (.int b3 f'), .v (.int b4 t'), .v (.string s'), .v (.int b5 n')]) = (k == k' && (m == m' && (f == f' && (t == t' && (s.toList == s'.toList && (n == n' && true)))))) := by
  simp [eqB, AV.leaves, AV.leavesL, leafEq]
theorem eqok_terms (k m k' m' : Int) : EqOk E.P 61 (.node [1, 1] [.v (.int .i64 k), .v (.int .i64 m)]) (.node [1, 1] [.v (.int .i64 k'), .v (.int .i64 m')]) (k == k' && (m == m' && true)) := by
  refine eqok_flat [("Least", 3, 0), ("Most", 3, 1)] (by kernel_rfl) (by kernel_rfl) (by kernel_rfl) (by kernel_rfl) [.int .i64 k, .int .i64 m] [.int .i64 k', .int .i64 m'] _ fun w => ?_
  refine eqF_cons (by decide) Tryd.underlying3 rfl rfl rfl (run_equalIn_int w 9998 _ _ _ _ _ Tryd.underlying3) ?_
  refine eqF_cons (by decide) Tryd.underlying3 rfl rfl rfl (run_equalIn_int w 9998 _ _ _ _ _ Tryd.underlying3) ?_
  exact eqF_nil
@[go_sem] theorem eqok_terms' (k m k' m' : Int) (r : Bool) (h : r = (k == k' && (m == m' && true))) : EqOk E.P 61 (.node [1, 1] [.v (.int .i64 k), .v (.int .i64 m)]) (.node [1, 1] [.v (.int .i64 k'), .v (.int .i64 m')]) r = True := eq_true (by subst h; exact eqok_terms _ _ _ _)
@[go_sem] theorem eqB_terms (ws ws' : List Nat) (k m k' m' : Int) (a1 a2 b1 b2 : IntKind) : eqB (.node ws [.v (.int a1 k), .v (.int a2 m)]) (.node ws' [.v (.int b1 k'), .v (.int b2 m')]) = (k == k' && (m == m' && true)) := by
  simp [eqB, AV.leaves, AV.leavesL, leafEq]
theorem eqok_person (k k' : ByteArray) (m m' : Int) : EqOk E.P 83 (.node [1, 1] [.v (.string k), .v (.int .i64 m)]) (.node [1, 1] [.v (.string k'), .v (.int .i64 m')]) (k.toList == k'.toList && (m == m' && true)) := by
  refine eqok_flat [("Name", 9, 0), ("Born", 3, 1)] (by kernel_rfl) (by kernel_rfl) (by kernel_rfl) (by kernel_rfl) [.string k, .int .i64 m] [.string k', .int .i64 m'] _ fun w => ?_
  refine eqF_cons (by decide) Tryd.underlying9 rfl rfl rfl (run_equalIn_string w 9998 _ _ _ Tryd.underlying9) ?_
  refine eqF_cons (by decide) Tryd.underlying3 rfl rfl rfl (run_equalIn_int w 9998 _ _ _ _ _ Tryd.underlying3) ?_
  exact eqF_nil
@[go_sem] theorem eqok_person' (k k' : ByteArray) (m m' : Int) (r : Bool) (h : r = (k.toList == k'.toList && (m == m' && true))) : EqOk E.P 83 (.node [1, 1] [.v (.string k), .v (.int .i64 m)]) (.node [1, 1] [.v (.string k'), .v (.int .i64 m')]) r = True := eq_true (by subst h; exact eqok_person _ _ _ _)
@[go_sem] theorem eqB_person (ws ws' : List Nat) (m m' : Int) (k k' : ByteArray) (a2 b2 : IntKind) : eqB (.node ws [.v (.string k), .v (.int a2 m)]) (.node ws' [.v (.string k'), .v (.int b2 m')]) = (k.toList == k'.toList && (m == m' && true)) := by
  simp [eqB, AV.leaves, AV.leavesL, leafEq]
@[go_sem] theorem strB_empty : strB ByteArray.empty = [] := rfl
@[go_sem] theorem strS_size (l : List UInt8) : (strS l).size = l.length := by simp [strS, ByteArray.size]
end Go.Mc
