/- Laws of bytes, numbers and heaps for the walks. -/
import Derived.Test.YtineemehkodlmaaDoorC4
set_option linter.all false
namespace Go.Mc
abbrev Tag := List UInt8

def eMac (x : Mac) : AV := .node [32, 1, 32] [.arr 1 (x.key.map u8), .sl 1 (x.msg.map u8) false, .arr 1 (x.tag.map u8)]
def eSealed (x : Sealed) : AV := .node [32, 1, 1, 1] [.arr 1 (x.key.map u8), .v (.int .i64 x.nonce), .sl 1 (x.plain.map u8) false, .sl 1 (x.box.map u8) false]
def eAlg (a : Alg) : AV := .node [1, 32, 1, 1, 1] [.v (.bool a.free), .arr 1 (a.seed.map u8), .v (.int .i64 a.fresh), .sl 65 (a.macs.map eMac) false, .sl 35 (a.boxes.map eSealed) false]
/-- the algebra of a maker: its rows have room -/
def eAlgT (a : Alg) (t1 t2 : Nat) : AV := .node [1, 32, 1, 1, 1] [.v (.bool a.free), .arr 1 (a.seed.map u8), .v (.int .i64 a.fresh), .sla 65 (a.macs.map eMac) t1, .sla 35 (a.boxes.map eSealed) t2]
def eMk (m : Mk) (t1 t2 : Nat) : AV := .node [36, 1] [eAlgT m.a t1 t2, .v (.int .i64 m.e)]
attribute [go_sem] eMac eSealed eAlg eAlgT eMk

theorem eMac_lt (x : Mac) (n : Nat) : (eMac x).lt n := by simp [eMac, AV.lt, AV.ltL, lt_bytes]
theorem eSealed_lt (x : Sealed) (n : Nat) : (eSealed x).lt n := by simp [eSealed, AV.lt, AV.ltL, lt_bytes]
@[go_sem] theorem ltL_mac (n : Nat) (l : List Mac) : AV.ltL n (l.map eMac) = True := eq_true (ltL_map eMac_lt n l)
@[go_sem] theorem ltL_sealed (n : Nat) (l : List Sealed) : AV.ltL n (l.map eSealed) = True := eq_true (ltL_map eSealed_lt n l)
theorem getD_mac {l : List Mac} {n : Nat} (h : n < l.length) : (l.map eMac).getD n .undef = eMac l[n] := by
  simp [List.getD_eq_getElem?_getD, h]

/-- where a maker lies -/
structure MkAt (W : List Blk) (k t1 t2 : Nat) (m : Mk) : Prop where
  obj : W[k]? = some (.obj (eMk m t1 t2))
  k1 : W[t1]? = some (.tok 65 m.a.macs.length)
  k2 : W[t2]? = some (.tok 35 m.a.boxes.length)
  d1 : t1 < k
  d2 : t2 < k
  d3 : t1 ≠ t2
def MkPut (W : List Blk) (k t1 t2 : Nat) (m : Mk) : List Blk := ((W.set t1 (.tok 65 m.a.macs.length)).set t2 (.tok 35 m.a.boxes.length)).set k (.obj (eMk m t1 t2))
theorem MkAt.lt {W : List Blk} {k t1 t2 : Nat} {m : Mk} (h : MkAt W k t1 t2 m) : k < W.length ∧ t1 < W.length ∧ t2 < W.length := by
  have h1 := (List.getElem?_eq_some_iff.1 h.obj).1
  have := h.d1; have := h.d2; omega
theorem MkAt.put {W : List Blk} {k t1 t2 : Nat} {m : Mk} (h : MkAt W k t1 t2 m) (m' : Mk) : MkAt (MkPut W k t1 t2 m') k t1 t2 m' := by
  obtain ⟨h1, h2, h3⟩ := h.lt
  have d1 := h.d1; have d2 := h.d2; have d3 := h.d3
  refine ⟨?_, ?_, ?_, d1, d2, d3⟩
  · simp [MkPut, h1]
  · rw [MkPut, List.getElem?_set_ne (by omega), List.getElem?_set_ne (by omega)]; simp [h2]
  · rw [MkPut, List.getElem?_set_ne (by omega)]; simp [h3]
theorem MkPut.len (W : List Blk) (k t1 t2 : Nat) (m : Mk) : (MkPut W k t1 t2 m).length = W.length := by simp [MkPut]
theorem MkAt.same {W : List Blk} {k t1 t2 : Nat} {m : Mk} (h : MkAt W k t1 t2 m) : MkPut W k t1 t2 m = W := by
  have e : ∀ {l : List Blk} {i : Nat} {b : Blk}, l[i]? = some b → l.set i b = l := by
    intro l i b hb
    apply List.ext_getElem?
    intro j
    rw [List.getElem?_set]
    split
    · rename_i q; subst q
      split
      · exact hb.symm
      · rename_i q; rw [List.getElem?_eq_none (by omega)]
    · rfl
  rw [MkPut, e h.k1, e h.k2, e h.obj]
/-- only the object changes -/
theorem MkAt.set {W : List Blk} {k t1 t2 : Nat} {m m' : Mk} (h : MkAt W k t1 t2 m) (h1 : m'.a.macs.length = m.a.macs.length) (h2 : m'.a.boxes.length = m.a.boxes.length) : W.set k (.obj (eMk m' t1 t2)) = MkPut W k t1 t2 m' := by
  have := h.same
  rw [MkPut] at this ⊢
  rw [h1, h2]
  conv => lhs; rw [← this]
  rw [List.set_set]

/-! blocks behind a heap of which nothing is known but its length -/
theorem hgetL {α : Type} {W l : List α} {k : Nat} (h : k < W.length) : (W ++ l)[k]? = W[k]? := List.getElem?_append_left h
theorem hsetL {α : Type} {W l : List α} {k : Nat} {b : α} (h : k < W.length) : (W ++ l).set k b = W.set k b ++ l := by rw [List.set_append, if_pos h]
end Go.Mc
