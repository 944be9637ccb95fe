/- The statement ChainFree: in a free algebra two chains have the same last tag only if they have the same key, serial number and caveats; for every input, in every world that holds the two tables. -/
import Derived.Test.YtineemehkodlmaaDoorG1
set_option linter.all false
set_option maxRecDepth 100000
namespace Go.Proofs.YtineemehkodlmaaDoor.chainFree
open Go Go.Mc Go.Lib Go.ChangeShapes Go.WideShapes Go.RowKit Go.ChangeAt Go.Proofs

theorem intsArg {H : Type} {enc : TypeId × Value → H} {W : World} {base t e : Nat} {v : Value} {d : DataW H} {ps : List MemPlace} (ht : Tryd.prog.underlying t = some (.slice e)) (he : Tryd.prog.underlying e = some (.int .i64)) (hc : Tryd.prog.cellsOf e = 1)
    (hval : Value.okWide Tryd.prog W .any base t v) (h : DataW.Trod enc Tryd.prog W 0 (fun _ => true) true t v d ps) :
    ∃ L : List Int, L.length ≤ 9223372036854775807 ∧ Val (G0 W) (eInts L) v := by
  obtain ⟨fuel, hf⟩ := h
  obtain ⟨a0, len, cap, rfl⟩ := okWide_slice ht hval
  rcases open_ints ht he hc hf with ⟨hcs, -⟩ | ⟨a, len', cap', zs, hcs, _, hl, hm, hz, -, hcell, -⟩
  · simp [Value.cells] at hcs
    obtain ⟨rfl, rfl, rfl⟩ := hcs
    exact ⟨[], by simp, .nil⟩
  · simp [Value.cells] at hcs
    obtain ⟨rfl, rfl, rfl⟩ := hcs
    simp only [if_true] at hz
    have hsp : a.spot = none := by
      simp only [Value.okWide, ht, Cell.okWide, Cell.ok] at hval
      exact hval.2.2.2.1
    obtain ⟨b, off, spot⟩ := a
    simp only at hsp
    subst hsp
    have hlen : (zs.take len).length = len := by simp; omega
    refine ⟨zs.take len, ?_, ?_⟩
    · rw [hlen]
      have : (maxLen : Nat) ≤ 9223372036854775807 := by decide
      omega
    · have hu := ints_val (G := G0 W) .i64 (zs.take len)
      have := Val.sl (cl := false) (b := b) (off := off) (cap := cap) hu (fun i hi => ?_) (by rw [List.length_map, hlen]; exact hl) (by simp)
      · rw [List.length_map, hlen] at this
        exact this
      · have hi' : i < len := by simp only [List.length_map, hlen] at hi; exact hi
        have hc := hcell i (by omega)
        rw [addr_add] at hc
        apply G0_mem
        have hg : zs.getD i 0 = (zs.take len)[i]'(by omega) := by
          simp [List.getD_eq_getElem?_getD, show i < zs.length by omega]
        simp only [List.getElem_map]
        rw [← hg]
        exact hc

theorem cells3 : Tryd.prog.cellsOf 3 = 1 := by kernel_rfl
theorem laidOut : laidOutB Tryd.prog = true := by kernel_rfl

theorem contract (H : Type) (enc : TypeId × Value → H) (W : World) (base : Nat) (args : Array Value) (ds gs : List (DataW H)) (before : List MemPlace)
    (hval : ∀ (j : Nat) t v, Tryd.f4.params[j]? = some t → args[j]? = some v → Value.okWide Tryd.prog W .any base t v)
    (hW : DataW.Whole enc Tryd.prog Tryd.f4.params.toList Rows.chainFreeSpec.vars false W args.toList ds gs before) (hL : laidMetH Tryd.prog Rows.chainFreeRow.laid W) :
    Calls Tryd.prog 4 args W fun e W' => ∃ v, e = .returned v ∧ Rows.chainFreeSpec.post enc Tryd.prog Tryd.f4 false true false false W args v W' := by
  have hW' := hW
  obtain ⟨p, q, hA0, hV, rfl, hfz, hnd⟩ := hW
  have hA : DataW.TrodAll enc Tryd.prog W 0 (fun _ => true) true Tryd.f4.params.toList args.toList ds p := hA0
  rw [Tryd.params4] at hA hval
  obtain ⟨v0, v1, v2, d0, d1, d2, p0, p1, p2, rfl, rfl, rfl, h0, h1, h2⟩ := trodAll_three hA
  obtain ⟨rfl, rfl⟩ := trodVars_none hV
  obtain ⟨same, rfl, rfl, rfl⟩ := open_bool Tryd.underlying4 (hval 2 4 v2 rfl rfl) h2
  clear hA0
  simp only [List.append_nil] at hW'
  obtain ⟨L1, l1, w1⟩ := intsArg Tryd.underlying22 Tryd.underlying3 cells3 (hval 0 22 v0 rfl rfl) h0
  obtain ⟨L2, l2, w2⟩ := intsArg Tryd.underlying22 Tryd.underlying3 cells3 (hval 1 22 v1 rfl rfl) h1
  have hlt : ∀ x ∈ p0 ++ p1, x.block < W.heap.size := fun x hx => by simpa using hW'.lt x (by simpa using hx)
  refine ((c_ChainFree L1 L2 l1 l2 same []).run (G0 W) W #[v0, v1, .bool same] (st0 hL) (.cons w1 (.cons w2 (.cons (.v rfl) .nil)))).mono fun e W' hp => ?_
  obtain ⟨G', H', r, -, hext, hst, hres, rfl, rfl⟩ := hp
  cases hres with
  | ret hv =>
    obtain rfl := hv.inv_v
    have hb : Below W.heap.size W W' := by
      have := hst.base
      rw [hext.le.base] at this
      exact this
    refine ⟨_, rfl, ⟨_, _, _, [], p0 ++ (p1 ++ ([] ++ [])), [], hW', trodAll_mk1 (shut_bool Tryd.underlying4 _), ?_, rfl, hb.frame _, fun h => by cases h⟩⟩
    exact trodAll_cons_mk (Below.trod laidOut (by kernel_rfl) (of_decide_eq_true (by kernel_rfl)) h0 hb (fun x hx => hlt x (by simp [hx])))
      (trodAll_cons_mk (Below.trod laidOut (by kernel_rfl) (of_decide_eq_true (by kernel_rfl)) h1 hb (fun x hx => hlt x (by simp [hx])))
        (trodAll_cons_mk (shut_bool Tryd.underlying4 _) trodAll_mk0))
end Go.Proofs.YtineemehkodlmaaDoor.chainFree
