/- Contracts of functions of the program. -/
import Derived.Test.YtineemehkodlmaaDoorE7
set_option linter.all false
set_option maxRecDepth 100000
namespace Go.Mc
open Go.Proofs

@[go_sem] theorem eqok_tag' {a b : List UInt8} {r : Bool} (ha : a.length = 32) (hb : b.length = 32) (h : r = (a == b)) : EqOk E.P 24 (.arr 1 (a.map u8)) (.arr 1 (b.map u8)) r = True := by
  subst h; exact eqok_tag ha hb
theorem Mk.mac_succ {hm : By → By → By} {m : Mk} {key msg : By} (e : m.e = 0) (hl : msg.length ≤ 4096) (hn : m.a.macs.length < 65536) : (m.mac hm key msg).1.e = 0 ∧ (m.mac hm key msg).1.a.macs.length ≤ m.a.macs.length + 1 := by
  unfold Mk.mac
  rw [if_neg (by omega), if_neg (by omega)]
  split
  · exact ⟨e, by simp only; omega⟩
  · rw [if_neg (by omega)]
    exact ⟨e, by simp⟩
structure Good (a : Alg) (n : Nat) : Prop where
  ok : a.Ok
  free : a.Free
  len : a.macs.length ≤ n
theorem node_good {hm : By → By → By} (hl : ∀ k m, (hm k m).length = 32) {m : Mk} {n : Nat} (g : Good m.a n) (e : m.e = 0) (hn : n ≤ 60000) {key msg : By} (hk : key.length = 32) (hmsg : msg.length ≤ 4096) :
    ∃ m' t, m.node hm key msg = (m', t) ∧ m'.e = 0 ∧ Good m'.a (n + 2) ∧ m'.a.Has key msg t ∧ t.length = 32 ∧ ∀ k g u, m.a.Has k g u → m'.a.Has k g u := by
  obtain ⟨s1, s2⟩ := Mk.mac_succ (hm := hm) (key := key) e hmsg (by have := g.len; omega)
  obtain ⟨o1, o2, o3⟩ := Mk.mac_ok hl m g.ok key msg hk
  obtain ⟨-, f1, f2, f3, f4⟩ := Mk.mac_free (hm := hm) (key := key) (msg := msg) (m' := (m.mac hm key msg).1) (t := (m.mac hm key msg).2) rfl s1 g.free (by have := g.len; omega)
  obtain ⟨s3, s4⟩ := Mk.mac_succ (hm := hm) (m := (m.mac hm key msg).1) (key := (m.mac hm key msg).2) (msg := nodeW) s1 (by decide) (by have := g.len; omega)
  obtain ⟨o4, o5, o6⟩ := Mk.mac_ok hl (m.mac hm key msg).1 o1 (m.mac hm key msg).2 nodeW o2
  obtain ⟨-, f5, f6, f7, f8⟩ := Mk.mac_free (hm := hm) (key := (m.mac hm key msg).2) (msg := nodeW) (m := (m.mac hm key msg).1) (m' := ((m.mac hm key msg).1.mac hm (m.mac hm key msg).2 nodeW).1) (t := ((m.mac hm key msg).1.mac hm (m.mac hm key msg).2 nodeW).2) rfl s3 f1 f2
  exact ⟨_, _, rfl, s3, ⟨o4, f5, by have := g.len; omega⟩, f8 _ _ _ f3, o2, fun k g u q => f8 _ _ _ (f4 _ _ _ q)⟩
theorem mint_good {hm : By → By → By} (hl : ∀ k m, (hm k m).length = 32) {a : Alg} {n : Nat} (g : Good a n) (hn : n ≤ 60000) {key : By} (hk : key.length = 32) {s : Int} (h1 : 1 ≤ s) (h2 : s ≤ 3) :
    ∃ a' t, mintS hm a 1 key s = (a', ⟨1, s, [], t⟩, 0) ∧ Good a' (n + 2) ∧ Chain a' key s [] t ∧ t.length = 32 ∧ ∀ k g u, a.Has k g u → a'.Has k g u := by
  have hq : mintOk 1 s = true := by simp [mintOk]; omega
  have hml : (mintMsg s).length ≤ 4096 := by
    rw [mintMsg, numB_lt (by omega)]; simp
  obtain ⟨m', t, e1, e2, e3, e4, e5, e6⟩ := node_good hl (m := ⟨a, 0⟩) g rfl hn hk hml
  refine ⟨m'.a, t, ?_, e3, .mint e4, e5, e6⟩
  simp only [mintS, hq, if_true, e1, e2]
theorem att_good {hm : By → By → By} (hl : ∀ k m, (hm k m).length = 32) {a : Alg} {n : Nat} (g : Good a n) (hn : n ≤ 60000) {p : Pass} (hp : p.tag.length = 32) (hpl : p.cavs.length < 8) {c : Cav} (hc : c.ok = true) :
    ∃ a' t, attS hm a p c = (a', ⟨p.epoch, p.serial, p.cavs ++ [c], t⟩, 0) ∧ Good a' (n + 2) ∧ a'.Has p.tag (cavMsg c) t ∧ t.length = 32 ∧ ∀ k g u, a.Has k g u → a'.Has k g u := by
  have hfl : (p.cavs.filter (·.third)).length ≤ p.cavs.length := List.length_filter_le _ _
  have hml : (cavMsg c).length ≤ 4096 := by
    have := encC_len hc
    simp [cavMsg]; omega
  obtain ⟨m', t, e1, e2, e3, e4, e5, e6⟩ := node_good hl (m := ⟨a, 0⟩) g rfl hn hp hml
  refine ⟨m'.a, t, ?_, e3, e4, e5, e6⟩
  have hf : (Mk.mk a 0).fail 0 = ⟨a, 0⟩ := rfl
  have hnn : ¬ (64 ≤ p.cavs.length ∨ c.third = true ∧ 8 ≤ (p.cavs.filter (·.third)).length) := by omega
  have e1' := e1
  rw [cavMsg] at e1'
  simp only [attS, Mk.into, hc, if_true, hf, if_neg hnn, e1', e2]

def A0 : Alg := ⟨true, zeros 32, 0, [], []⟩
theorem A0_ok : A0.Ok := ⟨zeros_length 32, by simp [A0], by simp [A0], by simp [A0], by simp [A0], by simp [A0], by simp [A0]⟩
theorem A0_good : Good A0 0 := ⟨A0_ok, ⟨rfl, by simp [A0], by simp [A0]⟩, by simp [A0]⟩
def hmZ : By → By → By := fun _ _ => zeros 32
theorem hmZ_len (k m : By) : (hmZ k m).length = 32 := zeros_length 32
theorem hmZ_c {a : Alg} (h : a.Free) : HmC hmZ a.free := ⟨hmZ_len, fun q => by rw [h.free] at q; simp at q⟩
def cav3 : Cav := ⟨false, ⟨7, 0, 0, 0, [], 3⟩, 0, [], []⟩
def aw1 : Alg := ⟨true, zeros 32, 0, [⟨zeros 32, [109, 105, 110, 116, 1], symL 109 1⟩, ⟨symL 109 1, nodeW, symL 109 2⟩], []⟩
theorem aw_mint : mintS hmZ A0 1 (zeros 32) 1 = (aw1, ⟨1, 1, [], symL 109 1⟩, 0) := by
  have e : mintMsg 1 = [109, 105, 110, 116, 1] := by rw [mintMsg, numB_lt (by decide)]; rfl
  rw [mintS, e]
  show (_ : Alg × Pass × Int) = _
  first | kernel_rfl | rfl
def aw2 : Alg := ⟨true, zeros 32, 0, [⟨zeros 32, [109, 105, 110, 116, 1], symL 109 1⟩, ⟨symL 109 1, nodeW, symL 109 2⟩, ⟨symL 109 1, [99, 97, 118, 101, 97, 116, 1, 7, 3], symL 109 3⟩, ⟨symL 109 3, nodeW, symL 109 4⟩], []⟩
theorem aw_att : attS hmZ aw1 ⟨1, 1, [], symL 109 1⟩ cav3 = (aw2, ⟨1, 1, [cav3], symL 109 3⟩, 0) := by
  have e : encC cav3 = [1, 7, 3] := by rw [encC, encP]; simp [cav3, numB_lt]
  have hc : cav3.ok = true := by kernel_rfl
  simp only [attS, Mk.into, e, hc, if_true]
  show (_ : Alg × Pass × Int) = _
  first | kernel_rfl | rfl
theorem c_awake13 (H : List Blk) : ACalls E 17 [] H (Gives H (.v (.bool true))) := by

  refine ACalls.tidy (by simp) (ACalls.enter Tryd.call17 Tryd.func17 rfl ?_)
  refine AW.sound pd17 mixed Tryd.func17 (by rw [Tryd.results17]) 1000 ?_
  simp -implicitDefEqProofs only [↓reduceIte, go_sem, Tryd.ntmps17, zeros_length]
  have hc0 := hmZ_c A0_good.free
  refine ACalls.useW (by repeat (first | exact WkL.nil | refine WkL.cons (Wk.refl _) ?_ | refine WkL.cons Wk.sla ?_ | refine WkL.cons Wk.sl ?_ | refine WkL.cons Wk.empty ?_ | refine WkL.cons Wk.nil ?_ | refine WkL.cons (Wk.node (by repeat' (first | exact WkL.nil | refine WkL.cons ?_ ?_ | exact Wk.refl _ | exact Wk.sla | exact Wk.sl | exact Wk.empty | exact Wk.nil | refine Wk.node ?_))) ?_)) (c_Mint (hm := hmZ) A0 A0_ok hc0 1 (zeros 32) (zeros_length 32) 1 _) ?_
  simp -implicitDefEqProofs only [↓reduceIte, go_sem, aw_mint, ePR, zeros_length]
  have okp : (⟨1, 1, [], symL 109 1⟩ : Pass).Ok := ⟨symL_length .., by simp, by simp⟩
  obtain ⟨a', t, g1, g2, -⟩ := mint_good hmZ_len A0_good (by omega) (key := zeros 32) (zeros_length 32) (s := 1) (by omega) (by omega)
  rw [aw_mint] at g1
  have ga : Good aw1 2 := by
    have := (Prod.mk.inj g1).1
    rw [this]; exact g2
  try refine ⟨Lock.ok (by decide +kernel), ?_⟩
  refine ACalls.useW (by repeat (first | exact WkL.nil | refine WkL.cons (Wk.refl _) ?_ | refine WkL.cons Wk.sla ?_ | refine WkL.cons Wk.sl ?_ | refine WkL.cons Wk.empty ?_ | refine WkL.cons Wk.nil ?_ | refine WkL.cons (Wk.node (by repeat' (first | exact WkL.nil | refine WkL.cons ?_ ?_ | exact Wk.refl _ | exact Wk.sla | exact Wk.sl | exact Wk.empty | exact Wk.nil | refine Wk.node ?_))) ?_)) (c_rides 3 _) ?_
  simp -implicitDefEqProofs only [↓reduceIte, go_sem, symL_length, zeros_length]
  refine ACalls.useW (by repeat (first | exact WkL.nil | refine WkL.cons (Wk.refl _) ?_ | refine WkL.cons Wk.sla ?_ | refine WkL.cons Wk.sl ?_ | refine WkL.cons Wk.empty ?_ | refine WkL.cons Wk.nil ?_ | refine WkL.cons (Wk.node (by repeat' (first | exact WkL.nil | refine WkL.cons ?_ ?_ | exact Wk.refl _ | exact Wk.sla | exact Wk.sl | exact Wk.empty | exact Wk.nil | refine Wk.node ?_))) ?_)) (c_Attenuate (hm := hmZ) aw1 ga.ok (hmZ_c ga.free) ⟨1, 1, [], symL 109 1⟩ okp cav3 (by simp [cav3]) _) ?_
  simp -implicitDefEqProofs only [↓reduceIte, go_sem, aw_att, ePR, symL_length, zeros_length]
  have l2 : aw2.macs.length = 4 := rfl
  have lc : ([cav3] : List Cav).length = 1 := rfl
  try refine ⟨Lock.ok (by decide +kernel), ?_⟩
  refine ACalls.useW (by repeat (first | exact WkL.nil | refine WkL.cons (Wk.refl _) ?_ | refine WkL.cons Wk.sla ?_ | refine WkL.cons Wk.sl ?_ | refine WkL.cons Wk.empty ?_ | refine WkL.cons Wk.nil ?_ | refine WkL.cons (Wk.node (by repeat' (first | exact WkL.nil | refine WkL.cons ?_ ?_ | exact Wk.refl _ | exact Wk.sla | exact Wk.sl | exact Wk.empty | exact Wk.nil | refine Wk.node ?_))) ?_)) (c_Symbol 109 1 _) ?_
  simp -implicitDefEqProofs only [↓reduceIte, go_sem, symL_length, l2, lc, zeros_length]
  refine ACalls.useW (by repeat (first | exact WkL.nil | refine WkL.cons (Wk.refl _) ?_ | refine WkL.cons Wk.sla ?_ | refine WkL.cons Wk.sl ?_ | refine WkL.cons Wk.empty ?_ | refine WkL.cons Wk.nil ?_ | refine WkL.cons (Wk.node (by repeat' (first | exact WkL.nil | refine WkL.cons ?_ ?_ | exact Wk.refl _ | exact Wk.sla | exact Wk.sl | exact Wk.empty | exact Wk.nil | refine Wk.node ?_))) ?_)) (c_Symbol 109 3 _) ?_
  simp -implicitDefEqProofs only [↓reduceIte, go_sem, symL_length, l2, lc, zeros_length]
  exact .ext (.refl _) trivial
end Go.Mc
