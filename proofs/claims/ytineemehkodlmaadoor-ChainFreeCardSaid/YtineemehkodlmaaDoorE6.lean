/- Contracts of functions of the program. -/
import Derived.Test.YtineemehkodlmaaDoorE5
set_option linter.all false
set_option maxRecDepth 100000
namespace Go.Mc
open Go.Proofs

structure Pass where
  epoch : Int
  serial : Int
  cavs : List Cav
  tag : By
def Pass.zero : Pass := ⟨0, 0, [], zeros 32⟩
def ePass (p : Pass) : AV := .node [1, 1, 1, 32] [.v (.int .i64 p.epoch), .v (.int .i64 p.serial), .sl 10 (p.cavs.map eCav) false, .arr 1 (p.tag.map u8)]
attribute [go_sem] ePass
def ePR (x : Alg × Pass × Int) : AV := .tup [eAlg x.1, ePass x.2.1, .v (.int .i64 x.2.2)]
theorem ePR_lt (x : Alg × Pass × Int) (n : Nat) : (ePR x).lt n := by simp [ePR, AV.lt, AV.ltL, eAlg, ePass, lt_bytes, ltL_mac, ltL_sealed, ltL_cav]
def mintOk (num serial : Int) : Bool := decide (1 ≤ num) && decide (num ≤ 1000) && decide (1 ≤ serial) && decide (serial ≤ 1073741824)
def mintS (hm : By → By → By) (a : Alg) (num : Int) (key : By) (serial : Int) : Alg × Pass × Int :=
  if mintOk num serial then
    let r := (Mk.mk a 0).node hm key (mintMsg serial)
    if r.1.e = 0 then (r.1.a, ⟨num, serial, [], r.2⟩, 0) else (Alg.zero, Pass.zero, r.1.e)
  else (Alg.zero, Pass.zero, 1)
theorem Mk.node_ok {hm : By → By → By} (hl : ∀ k m, (hm k m).length = 32) (m : Mk) (ok : m.a.Ok) (key msg : By) (hk : key.length = 32) :
    (m.node hm key msg).1.a.Ok ∧ (m.node hm key msg).2.length = 32 ∧ (m.node hm key msg).1.a.free = m.a.free := by
  obtain ⟨h1, h2, h3⟩ := Mk.mac_ok hl m ok key msg hk
  obtain ⟨h4, h5, h6⟩ := Mk.mac_ok hl _ h1 _ nodeW h2
  exact ⟨h4, h2, h6.trans h3⟩

theorem c_DoneN {W : List Blk} {k t1 t2 : Nat} {m0 : Mk} (h : MkAt W k t1 t2 m0) (m : Mk) : ACalls E 44 [.ptr k [] 0] (MkPut W k t1 t2 m) (Gives (MkPut W k t1 t2 m) (.tup [eAlg m.done, .v (.int .i64 m.e)])) := by
  have := c_DoneU h m []
  simpa only [List.append_nil] using this

theorem c_DoneB {W : List Blk} {k t1 t2 : Nat} {m : Mk} (h : MkAt W k t1 t2 m) : ACalls E 44 [.ptr k [] 0] W (Gives W (.tup [eAlg m.done, .v (.int .i64 m.e)])) := by
  have := c_DoneN h m
  rwa [h.same] at this

theorem c_Mint {hm : By → By → By} (a : Alg) (ok : a.Ok) (hc : HmC hm a.free) (num : Int) (key : By) (hk : key.length = 32) (serial : Int) (H : List Blk) :
    ACalls E 11 [eAlg a, .node [1, 32] [.v (.int .i64 num), .arr 1 (key.map u8)], .v (.int .i64 serial)] H (Gives H (ePR (mintS hm a num key serial))) := by
  have hsd := ok.seed

  refine ACalls.tidy (by simp) (ACalls.enter Tryd.call11 Tryd.func11 rfl ?_)
  refine AW.sound pd11 mixed Tryd.func11 (by rw [Tryd.results11]) 1000 ?_
  simp -implicitDefEqProofs only [↓reduceIte, go_sem, Tryd.ntmps11, hk, hsd]
  refine ACalls.useW (by repeat (first | exact WkL.nil | refine WkL.cons (Wk.refl _) ?_ | refine WkL.cons Wk.sla ?_ | refine WkL.cons Wk.sl ?_ | refine WkL.cons Wk.empty ?_ | refine WkL.cons Wk.nil ?_ | refine WkL.cons (Wk.node (by repeat' (first | exact WkL.nil | refine WkL.cons ?_ ?_ | exact Wk.refl _ | exact Wk.sla | exact Wk.sl | exact Wk.empty | exact Wk.nil | refine Wk.node ?_))) ?_)) (c_ranges num serial _) ?_
  simp -implicitDefEqProofs only [↓reduceIte, go_sem, hk, hsd]
  rw [show (decide (1 ≤ num) && decide (num ≤ 1000) && decide (1 ≤ serial) && decide (serial ≤ 1073741824)) = mintOk num serial from rfl]
  cases q : mintOk num serial
  · simp -implicitDefEqProofs only [↓reduceIte, go_sem, q, hk, hsd]
    rw [show mintS hm a num key serial = (Alg.zero, Pass.zero, 1) by simp [mintS, q]]
    exact .ext (by repeat' (first | exact Wk.refl _ | exact Wk.sla | exact Wk.sl | exact Wk.empty | exact Wk.nil | exact WkL.nil | refine Wk.node ?_ | refine Wk.tup ?_ | refine WkL.cons ?_ ?_)) (ePR_lt _ _)
  · simp -implicitDefEqProofs only [↓reduceIte, go_sem, q, hk, hsd]
    have qq := q
    simp only [mintOk, Bool.and_eq_true, decide_eq_true_eq] at qq
    obtain ⟨s, rfl⟩ := Int.eq_ofNat_of_zero_le (show 0 ≤ serial by omega)
    refine ACalls.useW (by repeat (first | exact WkL.nil | refine WkL.cons (Wk.refl _) ?_ | refine WkL.cons Wk.sla ?_ | refine WkL.cons Wk.sl ?_ | refine WkL.cons Wk.empty ?_ | refine WkL.cons Wk.nil ?_ | refine WkL.cons (Wk.node (by repeat' (first | exact WkL.nil | refine WkL.cons ?_ ?_ | exact Wk.refl _ | exact Wk.sla | exact Wk.sl | exact Wk.empty | exact Wk.nil | refine Wk.node ?_))) ?_)) (c_Begin a ok.seed _) ?_
    simp -implicitDefEqProofs only [↓reduceIte, go_sem, Nat.add_assoc, hk, hsd]
    try refine ⟨Lock.ok (by decide +kernel), ?_⟩
    refine ACalls.useW (by repeat (first | exact WkL.nil | refine WkL.cons (Wk.refl _) ?_ | refine WkL.cons Wk.sla ?_ | refine WkL.cons Wk.sl ?_ | refine WkL.cons Wk.empty ?_ | refine WkL.cons Wk.nil ?_ | refine WkL.cons (Wk.node (by repeat' (first | exact WkL.nil | refine WkL.cons ?_ ?_ | exact Wk.refl _ | exact Wk.sla | exact Wk.sl | exact Wk.empty | exact Wk.nil | refine Wk.node ?_))) ?_)) (c_mint s (by omega) _) ?_
    simp -implicitDefEqProofs only [↓reduceIte, go_sem, hk, hsd]
    refine ACalls.useW (by repeat (first | exact WkL.nil | refine WkL.cons (Wk.refl _) ?_ | refine WkL.cons Wk.sla ?_ | refine WkL.cons Wk.sl ?_ | refine WkL.cons Wk.empty ?_ | refine WkL.cons Wk.nil ?_ | refine WkL.cons (Wk.node (by repeat' (first | exact WkL.nil | refine WkL.cons ?_ ?_ | exact Wk.refl _ | exact Wk.sla | exact Wk.sl | exact Wk.empty | exact Wk.nil | refine Wk.node ?_))) ?_)) (c_node (hm := hm) (k := H.length + 7) (t1 := H.length + 5) (t2 := H.length + 6) (m := ⟨a, 0⟩) ⟨by simp only [go_sem, Nat.add_assoc], by simp only [go_sem, Nat.add_assoc], by simp only [go_sem, Nat.add_assoc], by omega, by omega, by omega⟩ ok hc key (mintMsg s) hk) ?_
    simp -implicitDefEqProofs only [↓reduceIte, go_sem, hk, hsd]
    obtain ⟨okn, hln, hfn⟩ := Mk.node_ok hc.len ⟨a, 0⟩ ok key (mintMsg s) hk
    refine ⟨hln.symm, hln.symm, ?_⟩
    have em : mintS hm a num key s = (let r := (Mk.mk a 0).node hm key (mintMsg s); if r.1.e = 0 then (r.1.a, ⟨num, s, [], r.2⟩, 0) else (Alg.zero, Pass.zero, r.1.e)) := by
      simp only [mintS, q, if_true]
    rw [em]
    generalize (Mk.mk a 0).node hm key (mintMsg s) = r at *
    have hsr := okn.seed
    refine ACalls.useW (by repeat (first | exact WkL.nil | refine WkL.cons (Wk.refl _) ?_ | refine WkL.cons Wk.sla ?_ | refine WkL.cons Wk.sl ?_ | refine WkL.cons Wk.empty ?_ | refine WkL.cons Wk.nil ?_ | refine WkL.cons (Wk.node (by repeat' (first | exact WkL.nil | refine WkL.cons ?_ ?_ | exact Wk.refl _ | exact Wk.sla | exact Wk.sl | exact Wk.empty | exact Wk.nil | refine Wk.node ?_))) ?_)) (c_DoneU (t1 := H.length + 5) (t2 := H.length + 6) (m0 := ⟨a, 0⟩) (k := H.length + 7) ⟨by simp only [go_sem, Nat.add_assoc], by simp only [go_sem, Nat.add_assoc], by simp only [go_sem, Nat.add_assoc], by omega, by omega, by omega⟩ _ _) ?_
    simp -implicitDefEqProofs only [↓reduceIte, go_sem, MkPut, Nat.add_assoc, hsr, hk, hsd]
    refine brk.bne (fun q3 => ?_) (fun q3 => ?_)
    · rw [if_neg q3]
      simp -implicitDefEqProofs only [↓reduceIte, go_sem, hk, hsd]
      try refine ⟨Lock.ok (by decide +kernel), ?_⟩
      exact .ext (by repeat' (first | exact Wk.refl _ | exact Wk.sla | exact Wk.sl | exact Wk.empty | exact Wk.nil | exact WkL.nil | refine Wk.node ?_ | refine Wk.tup ?_ | refine WkL.cons ?_ ?_)) (ePR_lt _ _)
    · rw [if_pos q3]
      simp -implicitDefEqProofs only [↓reduceIte, go_sem, q3, hln, hsr, Mk.done, hk, hsd]
      try refine ⟨Lock.ok (by decide +kernel), ?_⟩
      exact .ext (by repeat' (first | exact Wk.refl _ | exact Wk.sla | exact Wk.sl | exact Wk.empty | exact Wk.nil | exact WkL.nil | refine Wk.node ?_ | refine Wk.tup ?_ | refine WkL.cons ?_ ?_)) (ePR_lt _ _)

def Mk.into (hm : By → By → By) (m : Mk) (p : Pass) (c : Cav) : Mk × Pass :=
  let m1 := m.fail (if c.ok then 0 else 5)
  let m2 := if 64 ≤ p.cavs.length ∨ c.third = true ∧ 8 ≤ (p.cavs.filter (·.third)).length then m1.fail 2 else m1
  let r := m2.node hm p.tag ([99, 97, 118, 101, 97, 116] ++ (if c.ok then encC c else []))
  (r.1, ⟨p.epoch, p.serial, p.cavs ++ [c], r.2⟩)
structure Pass.Ok (p : Pass) : Prop where
  tag : p.tag.length = 32
  len : p.cavs.length ≤ 200
  cav : ∀ c ∈ p.cavs, c.ticket.length ≤ 100000 ∧ c.box.length ≤ 100000
theorem clipCav (l : List Cav) (cl : Bool) (H : List Blk) : ACalls E 88 [.sl 10 (l.map eCav) cl] H (Gives H (.sl 10 (l.map eCav) true)) := by
  refine ACalls.tidy (by simp) (ACalls.enter Tryd.call88 Tryd.func88 rfl ?_)
  refine AW.sound nopl mixed Tryd.func88 (by rw [Tryd.results88]) 1000 ?_
  simp -implicitDefEqProofs only [↓reduceIte, go_sem, Tryd.ntmps88]
  exact ⟨by omega, .here (by rw [List.take_length]; exact .refl _) (by simp only [go_sem])⟩

theorem c_Into {hm : By → By → By} {W : List Blk} {k t1 t2 : Nat} {m : Mk} (h : MkAt W k t1 t2 m) (ok : m.a.Ok) (hc : HmC hm m.a.free) (p : Pass) (hp : p.Ok) (c : Cav) (hcav : c.ticket.length ≤ 100000 ∧ c.box.length ≤ 100000) :
    ACalls E 54 [.ptr k [] 0, ePass p, eCav c] W (Gives (MkPut W k t1 t2 (m.into hm p c).1) (ePass (m.into hm p c).2)) := by
  refine ACalls.tidy (by rw [MkPut.len]; exact Nat.le_refl _) ?_
  have hpt := hp.tag
  have hlen := hp.len

  refine ACalls.enter Tryd.call54 Tryd.func54 rfl ?_
  refine AW.sound pd54 mixed Tryd.func54 (by rw [Tryd.results54]) 1000 ?_
  simp -implicitDefEqProofs only [↓reduceIte, go_sem, Tryd.ntmps54, hpt]
  refine ACalls.useW (by repeat (first | exact WkL.nil | refine WkL.cons (Wk.refl _) ?_ | refine WkL.cons Wk.sla ?_ | refine WkL.cons Wk.sl ?_ | refine WkL.cons Wk.empty ?_ | refine WkL.cons Wk.nil ?_ | refine WkL.cons (Wk.node (by repeat' (first | exact WkL.nil | refine WkL.cons ?_ ?_ | exact Wk.refl _ | exact Wk.sla | exact Wk.sl | exact Wk.empty | exact Wk.nil | refine Wk.node ?_))) ?_)) (c_CEncode c _) ?_
  simp -implicitDefEqProofs only [↓reduceIte, go_sem, eEnc, hpt]
  have ac : p.cavs.map eCav ++ [eCav c] = (p.cavs ++ [c]).map eCav := by simp
  have hcv : ∀ x ∈ p.cavs ++ [c], x.ticket.length ≤ 1000000 ∧ x.box.length ≤ 1000000 := by
    intro x hx
    simp only [List.mem_append, List.mem_singleton] at hx
    rcases hx with hx | rfl
    · have := hp.cav x hx; omega
    · omega
  simp only [go_sem] at ac
  have hbl : (if c.ok = true then encC c else []).length ≤ 3000 := by
    split
    · exact encC_len (by assumption)
    · simp
  refine ACalls.useW (by repeat (first | exact WkL.nil | refine WkL.cons (Wk.refl _) ?_ | refine WkL.cons Wk.sla ?_ | refine WkL.cons Wk.sl ?_ | refine WkL.cons Wk.empty ?_ | refine WkL.cons Wk.nil ?_ | refine WkL.cons (Wk.node (by repeat' (first | exact WkL.nil | refine WkL.cons ?_ ?_ | exact Wk.refl _ | exact Wk.sla | exact Wk.sl | exact Wk.empty | exact Wk.nil | refine Wk.node ?_))) ?_)) (c_Fail' h _ _) ?_
  simp -implicitDefEqProofs only [↓reduceIte, go_sem, hpt]
  refine brk.not (brk.dec (fun q => ?_) (fun q => ?_))

  · simp -implicitDefEqProofs only [↓reduceIte, go_sem, hpt, q, ac]
    refine ACalls.useW (by repeat (first | exact WkL.nil | refine WkL.cons (Wk.refl _) ?_ | refine WkL.cons Wk.sla ?_ | refine WkL.cons Wk.sl ?_ | refine WkL.cons Wk.empty ?_ | refine WkL.cons Wk.nil ?_ | refine WkL.cons (Wk.node (by repeat' (first | exact WkL.nil | refine WkL.cons ?_ ?_ | exact Wk.refl _ | exact Wk.sla | exact Wk.sl | exact Wk.empty | exact Wk.nil | refine Wk.node ?_))) ?_)) (c_FailU h _ _ _) ?_
    simp -implicitDefEqProofs only [↓reduceIte, go_sem, hpt, q, ac]
    try refine ⟨Lock.ok (by decide +kernel), ?_⟩
    refine ACalls.useW (by repeat (first | exact WkL.nil | refine WkL.cons (Wk.refl _) ?_ | refine WkL.cons Wk.sla ?_ | refine WkL.cons Wk.sl ?_ | refine WkL.cons Wk.empty ?_ | refine WkL.cons Wk.nil ?_ | refine WkL.cons (Wk.node (by repeat' (first | exact WkL.nil | refine WkL.cons ?_ ?_ | exact Wk.refl _ | exact Wk.sla | exact Wk.sl | exact Wk.empty | exact Wk.nil | refine Wk.node ?_))) ?_)) (clipCav p.cavs _ _) ?_
    simp -implicitDefEqProofs only [↓reduceIte, go_sem, hpt, q, ac]
    refine ⟨by omega, ?_⟩
    refine ACalls.useW (by repeat (first | exact WkL.nil | refine WkL.cons (Wk.refl _) ?_ | refine WkL.cons Wk.sla ?_ | refine WkL.cons Wk.sl ?_ | refine WkL.cons Wk.empty ?_ | refine WkL.cons Wk.nil ?_ | refine WkL.cons (Wk.node (by repeat' (first | exact WkL.nil | refine WkL.cons ?_ ?_ | exact Wk.refl _ | exact Wk.sla | exact Wk.sl | exact Wk.empty | exact Wk.nil | refine Wk.node ?_))) ?_)) (c_Copied (p.cavs ++ [c]) (by rw [List.length_append, List.length_singleton]; omega) hcv (by simp) _) ?_
    simp -implicitDefEqProofs only [↓reduceIte, go_sem, hpt, q, ac]
    try refine ⟨Lock.ok (by decide +kernel), ?_⟩
    refine ACalls.useW (by repeat (first | exact WkL.nil | refine WkL.cons (Wk.refl _) ?_ | refine WkL.cons Wk.sla ?_ | refine WkL.cons Wk.sl ?_ | refine WkL.cons Wk.empty ?_ | refine WkL.cons Wk.nil ?_ | refine WkL.cons (Wk.node (by repeat' (first | exact WkL.nil | refine WkL.cons ?_ ?_ | exact Wk.refl _ | exact Wk.sla | exact Wk.sl | exact Wk.empty | exact Wk.nil | refine Wk.node ?_))) ?_)) (c_Message [99, 97, 118, 101, 97, 116] (if c.ok = true then encC c else []) (by omega) (by simp) _) ?_
    simp -implicitDefEqProofs only [↓reduceIte, go_sem, hpt, q, ac]
    refine ACalls.useW (by repeat (first | exact WkL.nil | refine WkL.cons (Wk.refl _) ?_ | refine WkL.cons Wk.sla ?_ | refine WkL.cons Wk.sl ?_ | refine WkL.cons Wk.empty ?_ | refine WkL.cons Wk.nil ?_ | refine WkL.cons (Wk.node (by repeat' (first | exact WkL.nil | refine WkL.cons ?_ ?_ | exact Wk.refl _ | exact Wk.sla | exact Wk.sl | exact Wk.empty | exact Wk.nil | refine Wk.node ?_))) ?_)) (c_nodeU h (hm := hm) (m := (m.fail (if c.ok = true then 0 else 5)).fail 2) ok hc p.tag ([99, 97, 118, 101, 97, 116] ++ (if c.ok = true then encC c else [])) hpt _) ?_
    simp -implicitDefEqProofs only [↓reduceIte, go_sem, hpt, q, ac]
    have e2 : m.into hm p c = ((((m.fail (if c.ok = true then 0 else 5)).fail 2).node hm p.tag ([99, 97, 118, 101, 97, 116] ++ (if c.ok = true then encC c else []))).1, ⟨p.epoch, p.serial, p.cavs ++ [c], (((m.fail (if c.ok = true then 0 else 5)).fail 2).node hm p.tag ([99, 97, 118, 101, 97, 116] ++ (if c.ok = true then encC c else []))).2⟩) := by
      simp only [Mk.into]
      rw [if_pos (.inl (by omega))]
    rw [e2]
    exact ⟨(Mk.node_ok hc.len ((m.fail (if c.ok = true then 0 else 5)).fail 2) ok p.tag _ hpt).2.1.symm, .ext (by repeat' (first | exact Wk.refl _ | exact Wk.sla | exact Wk.sl | exact Wk.empty | exact Wk.nil | exact WkL.nil | refine Wk.node ?_ | refine Wk.tup ?_ | refine WkL.cons ?_ ?_)) (by simp only [go_sem])⟩
  · cases q1 : c.third
    · rw [q1] at ac
      simp -implicitDefEqProofs only [↓reduceIte, go_sem, q1, hpt, q, ac]
      try refine ⟨Lock.ok (by decide +kernel), ?_⟩
      refine ACalls.useW (by repeat (first | exact WkL.nil | refine WkL.cons (Wk.refl _) ?_ | refine WkL.cons Wk.sla ?_ | refine WkL.cons Wk.sl ?_ | refine WkL.cons Wk.empty ?_ | refine WkL.cons Wk.nil ?_ | refine WkL.cons (Wk.node (by repeat' (first | exact WkL.nil | refine WkL.cons ?_ ?_ | exact Wk.refl _ | exact Wk.sla | exact Wk.sl | exact Wk.empty | exact Wk.nil | refine Wk.node ?_))) ?_)) (clipCav p.cavs _ _) ?_
      simp -implicitDefEqProofs only [↓reduceIte, go_sem, hpt, q, ac]
      refine ⟨by omega, ?_⟩
      refine ACalls.useW (by repeat (first | exact WkL.nil | refine WkL.cons (Wk.refl _) ?_ | refine WkL.cons Wk.sla ?_ | refine WkL.cons Wk.sl ?_ | refine WkL.cons Wk.empty ?_ | refine WkL.cons Wk.nil ?_ | refine WkL.cons (Wk.node (by repeat' (first | exact WkL.nil | refine WkL.cons ?_ ?_ | exact Wk.refl _ | exact Wk.sla | exact Wk.sl | exact Wk.empty | exact Wk.nil | refine Wk.node ?_))) ?_)) (c_Copied (p.cavs ++ [c]) (by rw [List.length_append, List.length_singleton]; omega) hcv (by simp) _) ?_
      simp -implicitDefEqProofs only [↓reduceIte, go_sem, hpt, q, ac]
      try refine ⟨Lock.ok (by decide +kernel), ?_⟩
      refine ACalls.useW (by repeat (first | exact WkL.nil | refine WkL.cons (Wk.refl _) ?_ | refine WkL.cons Wk.sla ?_ | refine WkL.cons Wk.sl ?_ | refine WkL.cons Wk.empty ?_ | refine WkL.cons Wk.nil ?_ | refine WkL.cons (Wk.node (by repeat' (first | exact WkL.nil | refine WkL.cons ?_ ?_ | exact Wk.refl _ | exact Wk.sla | exact Wk.sl | exact Wk.empty | exact Wk.nil | refine Wk.node ?_))) ?_)) (c_Message [99, 97, 118, 101, 97, 116] (if c.ok = true then encC c else []) (by omega) (by simp) _) ?_
      simp -implicitDefEqProofs only [↓reduceIte, go_sem, hpt, q, ac]
      refine ACalls.useW (by repeat (first | exact WkL.nil | refine WkL.cons (Wk.refl _) ?_ | refine WkL.cons Wk.sla ?_ | refine WkL.cons Wk.sl ?_ | refine WkL.cons Wk.empty ?_ | refine WkL.cons Wk.nil ?_ | refine WkL.cons (Wk.node (by repeat' (first | exact WkL.nil | refine WkL.cons ?_ ?_ | exact Wk.refl _ | exact Wk.sla | exact Wk.sl | exact Wk.empty | exact Wk.nil | refine Wk.node ?_))) ?_)) (c_nodeU h (hm := hm) (m := m.fail (if c.ok = true then 0 else 5)) ok hc p.tag ([99, 97, 118, 101, 97, 116] ++ (if c.ok = true then encC c else [])) hpt _) ?_
      simp -implicitDefEqProofs only [↓reduceIte, go_sem, hpt, q, ac]
      have e2 : m.into hm p c = (((m.fail (if c.ok = true then 0 else 5)).node hm p.tag ([99, 97, 118, 101, 97, 116] ++ (if c.ok = true then encC c else []))).1, ⟨p.epoch, p.serial, p.cavs ++ [c], ((m.fail (if c.ok = true then 0 else 5)).node hm p.tag ([99, 97, 118, 101, 97, 116] ++ (if c.ok = true then encC c else []))).2⟩) := by
        simp only [Mk.into]
        rw [if_neg (by rw [q1]; simp; omega)]
      rw [e2]
      exact ⟨(Mk.node_ok hc.len (m.fail (if c.ok = true then 0 else 5)) ok p.tag _ hpt).2.1.symm, .ext (by repeat' (first | exact Wk.refl _ | exact Wk.sla | exact Wk.sl | exact Wk.empty | exact Wk.nil | exact WkL.nil | refine Wk.node ?_ | refine Wk.tup ?_ | refine WkL.cons ?_ ?_)) (by simp only [go_sem])⟩
    · rw [q1] at ac
      simp -implicitDefEqProofs only [↓reduceIte, go_sem, q1, hpt, q, ac]
      try refine ⟨Lock.ok (by decide +kernel), ?_⟩
      refine ACalls.useW (by repeat (first | exact WkL.nil | refine WkL.cons (Wk.refl _) ?_ | refine WkL.cons Wk.sla ?_ | refine WkL.cons Wk.sl ?_ | refine WkL.cons Wk.empty ?_ | refine WkL.cons Wk.nil ?_ | refine WkL.cons (Wk.node (by repeat' (first | exact WkL.nil | refine WkL.cons ?_ ?_ | exact Wk.refl _ | exact Wk.sla | exact Wk.sl | exact Wk.empty | exact Wk.nil | refine Wk.node ?_))) ?_)) (c_thirds p.cavs (by omega) _) ?_
      simp -implicitDefEqProofs only [↓reduceIte, go_sem, q1, hpt, q, ac]
      refine brk.dec (fun q2 => ?_) (fun q2 => ?_)
      · simp -implicitDefEqProofs only [↓reduceIte, go_sem, hpt, q, ac]
        refine ACalls.useW (by repeat (first | exact WkL.nil | refine WkL.cons (Wk.refl _) ?_ | refine WkL.cons Wk.sla ?_ | refine WkL.cons Wk.sl ?_ | refine WkL.cons Wk.empty ?_ | refine WkL.cons Wk.nil ?_ | refine WkL.cons (Wk.node (by repeat' (first | exact WkL.nil | refine WkL.cons ?_ ?_ | exact Wk.refl _ | exact Wk.sla | exact Wk.sl | exact Wk.empty | exact Wk.nil | refine Wk.node ?_))) ?_)) (c_FailU h _ _ _) ?_
        simp -implicitDefEqProofs only [↓reduceIte, go_sem, hpt, q, ac]
        try refine ⟨Lock.ok (by decide +kernel), ?_⟩
        refine ACalls.useW (by repeat (first | exact WkL.nil | refine WkL.cons (Wk.refl _) ?_ | refine WkL.cons Wk.sla ?_ | refine WkL.cons Wk.sl ?_ | refine WkL.cons Wk.empty ?_ | refine WkL.cons Wk.nil ?_ | refine WkL.cons (Wk.node (by repeat' (first | exact WkL.nil | refine WkL.cons ?_ ?_ | exact Wk.refl _ | exact Wk.sla | exact Wk.sl | exact Wk.empty | exact Wk.nil | refine Wk.node ?_))) ?_)) (clipCav p.cavs _ _) ?_
        simp -implicitDefEqProofs only [↓reduceIte, go_sem, hpt, q, ac]
        refine ⟨by omega, ?_⟩
        refine ACalls.useW (by repeat (first | exact WkL.nil | refine WkL.cons (Wk.refl _) ?_ | refine WkL.cons Wk.sla ?_ | refine WkL.cons Wk.sl ?_ | refine WkL.cons Wk.empty ?_ | refine WkL.cons Wk.nil ?_ | refine WkL.cons (Wk.node (by repeat' (first | exact WkL.nil | refine WkL.cons ?_ ?_ | exact Wk.refl _ | exact Wk.sla | exact Wk.sl | exact Wk.empty | exact Wk.nil | refine Wk.node ?_))) ?_)) (c_Copied (p.cavs ++ [c]) (by rw [List.length_append, List.length_singleton]; omega) hcv (by simp) _) ?_
        simp -implicitDefEqProofs only [↓reduceIte, go_sem, hpt, q, ac]
        try refine ⟨Lock.ok (by decide +kernel), ?_⟩
        refine ACalls.useW (by repeat (first | exact WkL.nil | refine WkL.cons (Wk.refl _) ?_ | refine WkL.cons Wk.sla ?_ | refine WkL.cons Wk.sl ?_ | refine WkL.cons Wk.empty ?_ | refine WkL.cons Wk.nil ?_ | refine WkL.cons (Wk.node (by repeat' (first | exact WkL.nil | refine WkL.cons ?_ ?_ | exact Wk.refl _ | exact Wk.sla | exact Wk.sl | exact Wk.empty | exact Wk.nil | refine Wk.node ?_))) ?_)) (c_Message [99, 97, 118, 101, 97, 116] (if c.ok = true then encC c else []) (by omega) (by simp) _) ?_
        simp -implicitDefEqProofs only [↓reduceIte, go_sem, hpt, q, ac]
        refine ACalls.useW (by repeat (first | exact WkL.nil | refine WkL.cons (Wk.refl _) ?_ | refine WkL.cons Wk.sla ?_ | refine WkL.cons Wk.sl ?_ | refine WkL.cons Wk.empty ?_ | refine WkL.cons Wk.nil ?_ | refine WkL.cons (Wk.node (by repeat' (first | exact WkL.nil | refine WkL.cons ?_ ?_ | exact Wk.refl _ | exact Wk.sla | exact Wk.sl | exact Wk.empty | exact Wk.nil | refine Wk.node ?_))) ?_)) (c_nodeU h (hm := hm) (m := (m.fail (if c.ok = true then 0 else 5)).fail 2) ok hc p.tag ([99, 97, 118, 101, 97, 116] ++ (if c.ok = true then encC c else [])) hpt _) ?_
        simp -implicitDefEqProofs only [↓reduceIte, go_sem, hpt, q, ac]
        have e2 : m.into hm p c = ((((m.fail (if c.ok = true then 0 else 5)).fail 2).node hm p.tag ([99, 97, 118, 101, 97, 116] ++ (if c.ok = true then encC c else []))).1, ⟨p.epoch, p.serial, p.cavs ++ [c], (((m.fail (if c.ok = true then 0 else 5)).fail 2).node hm p.tag ([99, 97, 118, 101, 97, 116] ++ (if c.ok = true then encC c else []))).2⟩) := by
          simp only [Mk.into]
          rw [if_pos (.inr ⟨q1, by omega⟩)]
        rw [e2]
        exact ⟨(Mk.node_ok hc.len ((m.fail (if c.ok = true then 0 else 5)).fail 2) ok p.tag _ hpt).2.1.symm, .ext (by repeat' (first | exact Wk.refl _ | exact Wk.sla | exact Wk.sl | exact Wk.empty | exact Wk.nil | exact WkL.nil | refine Wk.node ?_ | refine Wk.tup ?_ | refine WkL.cons ?_ ?_)) (by simp only [go_sem])⟩
      · simp -implicitDefEqProofs only [↓reduceIte, go_sem, hpt, q, ac]
        try refine ⟨Lock.ok (by decide +kernel), ?_⟩
        refine ACalls.useW (by repeat (first | exact WkL.nil | refine WkL.cons (Wk.refl _) ?_ | refine WkL.cons Wk.sla ?_ | refine WkL.cons Wk.sl ?_ | refine WkL.cons Wk.empty ?_ | refine WkL.cons Wk.nil ?_ | refine WkL.cons (Wk.node (by repeat' (first | exact WkL.nil | refine WkL.cons ?_ ?_ | exact Wk.refl _ | exact Wk.sla | exact Wk.sl | exact Wk.empty | exact Wk.nil | refine Wk.node ?_))) ?_)) (clipCav p.cavs _ _) ?_
        simp -implicitDefEqProofs only [↓reduceIte, go_sem, hpt, q, ac]
        refine ⟨by omega, ?_⟩
        refine ACalls.useW (by repeat (first | exact WkL.nil | refine WkL.cons (Wk.refl _) ?_ | refine WkL.cons Wk.sla ?_ | refine WkL.cons Wk.sl ?_ | refine WkL.cons Wk.empty ?_ | refine WkL.cons Wk.nil ?_ | refine WkL.cons (Wk.node (by repeat' (first | exact WkL.nil | refine WkL.cons ?_ ?_ | exact Wk.refl _ | exact Wk.sla | exact Wk.sl | exact Wk.empty | exact Wk.nil | refine Wk.node ?_))) ?_)) (c_Copied (p.cavs ++ [c]) (by rw [List.length_append, List.length_singleton]; omega) hcv (by simp) _) ?_
        simp -implicitDefEqProofs only [↓reduceIte, go_sem, hpt, q, ac]
        try refine ⟨Lock.ok (by decide +kernel), ?_⟩
        refine ACalls.useW (by repeat (first | exact WkL.nil | refine WkL.cons (Wk.refl _) ?_ | refine WkL.cons Wk.sla ?_ | refine WkL.cons Wk.sl ?_ | refine WkL.cons Wk.empty ?_ | refine WkL.cons Wk.nil ?_ | refine WkL.cons (Wk.node (by repeat' (first | exact WkL.nil | refine WkL.cons ?_ ?_ | exact Wk.refl _ | exact Wk.sla | exact Wk.sl | exact Wk.empty | exact Wk.nil | refine Wk.node ?_))) ?_)) (c_Message [99, 97, 118, 101, 97, 116] (if c.ok = true then encC c else []) (by omega) (by simp) _) ?_
        simp -implicitDefEqProofs only [↓reduceIte, go_sem, hpt, q, ac]
        refine ACalls.useW (by repeat (first | exact WkL.nil | refine WkL.cons (Wk.refl _) ?_ | refine WkL.cons Wk.sla ?_ | refine WkL.cons Wk.sl ?_ | refine WkL.cons Wk.empty ?_ | refine WkL.cons Wk.nil ?_ | refine WkL.cons (Wk.node (by repeat' (first | exact WkL.nil | refine WkL.cons ?_ ?_ | exact Wk.refl _ | exact Wk.sla | exact Wk.sl | exact Wk.empty | exact Wk.nil | refine Wk.node ?_))) ?_)) (c_nodeU h (hm := hm) (m := m.fail (if c.ok = true then 0 else 5)) ok hc p.tag ([99, 97, 118, 101, 97, 116] ++ (if c.ok = true then encC c else [])) hpt _) ?_
        simp -implicitDefEqProofs only [↓reduceIte, go_sem, hpt, q, ac]
        have e2 : m.into hm p c = (((m.fail (if c.ok = true then 0 else 5)).node hm p.tag ([99, 97, 118, 101, 97, 116] ++ (if c.ok = true then encC c else []))).1, ⟨p.epoch, p.serial, p.cavs ++ [c], ((m.fail (if c.ok = true then 0 else 5)).node hm p.tag ([99, 97, 118, 101, 97, 116] ++ (if c.ok = true then encC c else []))).2⟩) := by
          simp only [Mk.into]
          rw [if_neg (by rw [q1]; simp; omega)]
        rw [e2]
        exact ⟨(Mk.node_ok hc.len (m.fail (if c.ok = true then 0 else 5)) ok p.tag _ hpt).2.1.symm, .ext (by repeat' (first | exact Wk.refl _ | exact Wk.sla | exact Wk.sl | exact Wk.empty | exact Wk.nil | exact WkL.nil | refine Wk.node ?_ | refine Wk.tup ?_ | refine WkL.cons ?_ ?_)) (by simp only [go_sem])⟩
def attS (hm : By → By → By) (a : Alg) (p : Pass) (c : Cav) : Alg × Pass × Int :=
  let r := (Mk.mk a 0).into hm p c
  if r.1.e = 0 then (r.1.a, r.2, 0) else (Alg.zero, Pass.zero, r.1.e)
theorem Mk.into_ok {hm : By → By → By} (hl : ∀ k m, (hm k m).length = 32) (m : Mk) (ok : m.a.Ok) (p : Pass) (hp : p.tag.length = 32) (c : Cav) :
    (m.into hm p c).1.a.Ok ∧ (m.into hm p c).2.tag.length = 32 ∧ (m.into hm p c).1.a.free = m.a.free := by
  simp only [Mk.into]
  split
  · exact Mk.node_ok hl ((m.fail (if c.ok = true then 0 else 5)).fail 2) ok _ _ hp
  · exact Mk.node_ok hl (m.fail (if c.ok = true then 0 else 5)) ok _ _ hp
theorem c_Attenuate {hm : By → By → By} (a : Alg) (ok : a.Ok) (hc : HmC hm a.free) (p : Pass) (hp : p.Ok) (c : Cav) (hcav : c.ticket.length ≤ 100000 ∧ c.box.length ≤ 100000) (H : List Blk) :
    ACalls E 20 [eAlg a, ePass p, eCav c] H (Gives H (ePR (attS hm a p c))) := by
  obtain ⟨oki, hli, hfi⟩ := Mk.into_ok hc.len ⟨a, 0⟩ ok p hp.tag c
  have hsd := ok.seed
  have hpt := hp.tag

  refine ACalls.tidy (by simp) (ACalls.enter Tryd.call20 Tryd.func20 rfl ?_)
  refine AW.sound pd20 mixed Tryd.func20 (by rw [Tryd.results20]) 1000 ?_
  simp -implicitDefEqProofs only [↓reduceIte, go_sem, Tryd.ntmps20, hsd, hpt]
  refine ACalls.useW (by repeat (first | exact WkL.nil | refine WkL.cons (Wk.refl _) ?_ | refine WkL.cons Wk.sla ?_ | refine WkL.cons Wk.sl ?_ | refine WkL.cons Wk.empty ?_ | refine WkL.cons Wk.nil ?_ | refine WkL.cons (Wk.node (by repeat' (first | exact WkL.nil | refine WkL.cons ?_ ?_ | exact Wk.refl _ | exact Wk.sla | exact Wk.sl | exact Wk.empty | exact Wk.nil | refine Wk.node ?_))) ?_)) (c_Begin a ok.seed _) ?_
  simp -implicitDefEqProofs only [↓reduceIte, go_sem, Nat.add_assoc, hsd, hpt]
  try refine ⟨Lock.ok (by decide +kernel), ?_⟩
  have hsr := oki.seed
  refine ACalls.useW (by repeat (first | exact WkL.nil | refine WkL.cons (Wk.refl _) ?_ | refine WkL.cons Wk.sla ?_ | refine WkL.cons Wk.sl ?_ | refine WkL.cons Wk.empty ?_ | refine WkL.cons Wk.nil ?_ | refine WkL.cons (Wk.node (by repeat' (first | exact WkL.nil | refine WkL.cons ?_ ?_ | exact Wk.refl _ | exact Wk.sla | exact Wk.sl | exact Wk.empty | exact Wk.nil | refine Wk.node ?_))) ?_)) (c_Into (hm := hm) (k := H.length + 8) (t1 := H.length + 6) (t2 := H.length + 7) (m := ⟨a, 0⟩) ⟨by simp only [go_sem, Nat.add_assoc], by simp only [go_sem, Nat.add_assoc], by simp only [go_sem, Nat.add_assoc], by omega, by omega, by omega⟩ ok hc p hp c hcav) ?_
  simp -implicitDefEqProofs only [↓reduceIte, go_sem, hli, hsr, MkPut, Nat.add_assoc, hsd, hpt]
  have em : attS hm a p c = (let r := (Mk.mk a 0).into hm p c; if r.1.e = 0 then (r.1.a, r.2, 0) else (Alg.zero, Pass.zero, r.1.e)) := rfl
  rw [em]
  generalize (Mk.mk a 0).into hm p c = r at *
  try refine ⟨Lock.ok (by decide +kernel), ?_⟩
  refine ACalls.useW (by repeat (first | exact WkL.nil | refine WkL.cons (Wk.refl _) ?_ | refine WkL.cons Wk.sla ?_ | refine WkL.cons Wk.sl ?_ | refine WkL.cons Wk.empty ?_ | refine WkL.cons Wk.nil ?_ | refine WkL.cons (Wk.node (by repeat' (first | exact WkL.nil | refine WkL.cons ?_ ?_ | exact Wk.refl _ | exact Wk.sla | exact Wk.sl | exact Wk.empty | exact Wk.nil | refine Wk.node ?_))) ?_)) (c_DoneB (t1 := H.length + 6) (t2 := H.length + 7) (m := r.1) (k := H.length + 8) ⟨by simp only [go_sem, Nat.add_assoc], by simp only [go_sem, Nat.add_assoc], by simp only [go_sem, Nat.add_assoc], by omega, by omega, by omega⟩) ?_
  simp -implicitDefEqProofs only [↓reduceIte, go_sem, hsr, hli, hsd, hpt]
  refine brk.bne (fun q3 => ?_) (fun q3 => ?_)
  · rw [if_neg q3]
    simp -implicitDefEqProofs only [↓reduceIte, go_sem, hsd, hpt]
    try refine ⟨Lock.ok (by decide +kernel), ?_⟩
    exact .ext (by repeat' (first | exact Wk.refl _ | exact Wk.sla | exact Wk.sl | exact Wk.empty | exact Wk.nil | exact WkL.nil | refine Wk.node ?_ | refine Wk.tup ?_ | refine WkL.cons ?_ ?_)) (ePR_lt _ _)
  · rw [if_pos q3]
    simp -implicitDefEqProofs only [↓reduceIte, go_sem, q3, hli, hsr, Mk.done, hsd, hpt]
    try refine ⟨Lock.ok (by decide +kernel), ?_⟩
    exact .ext (by repeat' (first | exact Wk.refl _ | exact Wk.sla | exact Wk.sl | exact Wk.empty | exact Wk.nil | exact WkL.nil | refine Wk.node ?_ | refine Wk.tup ?_ | refine WkL.cons ?_ ?_)) (ePR_lt _ _)
end Go.Mc
