/- Contracts of functions of the program. -/
import Derived.Test.YtineemehkodlmaaDoorE4
set_option linter.all false
set_option maxRecDepth 100000
namespace Go.Mc
open Go.Proofs

theorem encP_len {p : Pred} (h : p.ok = true) : (encP p).length ≤ 40 := by
  obtain ⟨k, m, f, t, s, n⟩ := p
  have hk := numB_length (k := 7) (n := k.toNat) (by rcases Pred.ok_cases h with h | h | h | h <;> simp only at h <;> omega)
  simp only [encP]
  split
  · rename_i h4
    try simp only at h4
    have hf : f ≤ 67108864 ∧ t ≤ 67108864 := by rcases h4 with rfl | rfl <;> simp [Pred.ok] at h <;> omega
    have h1 := numB_length (k := 7) (n := f.toNat) (by omega)
    have h2 := numB_length (k := 7) (n := t.toNat) (by omega)
    simp only [List.length_append]; omega
  split
  · rename_i h4 h6
    try simp only at h6
    subst h6
    have hs := isName_len (s := s) (by simp [Pred.ok] at h; exact h.1)
    have h1 := numB_length (k := 7) (n := s.length) (by omega)
    simp only [List.length_append, fldB]; omega
  split
  · rename_i h4 h6 h7
    try simp only at h7
    subst h7
    have hf : n ≤ 1000000 := by simp [Pred.ok] at h; omega
    have h1 := numB_length (k := 7) (n := n.toNat) (by omega)
    simp only [List.length_append]; omega
  · simp only [List.length_append, be8u, List.length_cons, List.length_nil]; omega
theorem c_CEncode (c : Cav) (H : List Blk) : ACalls E 85 [eCav c] H (Gives H (eEnc c.ok (encC c))) := by
  cases q : c.ok
  · refine ACalls.tidy (by simp) (ACalls.enter Tryd.call85 Tryd.func85 rfl ?_)
    refine AW.sound nopl mixed Tryd.func85 (by rw [Tryd.results85]) 1000 ?_
    simp -implicitDefEqProofs only [↓reduceIte, go_sem, Tryd.ntmps85]
    refine ACalls.useW (by repeat (first | exact WkL.nil | refine WkL.cons (Wk.refl _) ?_ | refine WkL.cons Wk.sla ?_ | refine WkL.cons Wk.sl ?_ | refine WkL.cons Wk.empty ?_ | refine WkL.cons Wk.nil ?_ | refine WkL.cons (Wk.node (by repeat' (first | exact WkL.nil | refine WkL.cons ?_ ?_ | exact Wk.refl _ | exact Wk.sla | exact Wk.sl | exact Wk.empty | exact Wk.nil | refine Wk.node ?_))) ?_)) (c_CValid c _) ?_
    simp -implicitDefEqProofs only [↓reduceIte, go_sem, q]
    exact .ext (by repeat' (first | exact Wk.refl _ | exact Wk.sla | exact Wk.sl | exact Wk.empty | exact Wk.nil | exact WkL.nil | refine Wk.node ?_ | refine Wk.tup ?_ | refine WkL.cons ?_ ?_)) (by simp [eEnc, AV.lt, AV.ltL])
  obtain ⟨t, p, n, x, y⟩ := c
  cases t
  · have qp : p.ok = true := by simp [Cav.ok] at q; exact q.1.1.1
    refine ACalls.tidy (by simp) (ACalls.enter Tryd.call85 Tryd.func85 rfl ?_)
    refine AW.sound nopl mixed Tryd.func85 (by rw [Tryd.results85]) 1000 ?_
    simp -implicitDefEqProofs only [↓reduceIte, go_sem, Tryd.ntmps85]
    refine ACalls.useW (by repeat (first | exact WkL.nil | refine WkL.cons (Wk.refl _) ?_ | refine WkL.cons Wk.sla ?_ | refine WkL.cons Wk.sl ?_ | refine WkL.cons Wk.empty ?_ | refine WkL.cons Wk.nil ?_ | refine WkL.cons (Wk.node (by repeat' (first | exact WkL.nil | refine WkL.cons ?_ ?_ | exact Wk.refl _ | exact Wk.sla | exact Wk.sl | exact Wk.empty | exact Wk.nil | refine Wk.node ?_))) ?_)) (c_CValid ⟨false, p, n, x, y⟩ _) ?_
    simp -implicitDefEqProofs only [↓reduceIte, go_sem, q]
    refine ACalls.useW (by repeat (first | exact WkL.nil | refine WkL.cons (Wk.refl _) ?_ | refine WkL.cons Wk.sla ?_ | refine WkL.cons Wk.sl ?_ | refine WkL.cons Wk.empty ?_ | refine WkL.cons Wk.nil ?_ | refine WkL.cons (Wk.node (by repeat' (first | exact WkL.nil | refine WkL.cons ?_ ?_ | exact Wk.refl _ | exact Wk.sla | exact Wk.sl | exact Wk.empty | exact Wk.nil | refine Wk.node ?_))) ?_)) (c_PEncode p _) ?_
    simp -implicitDefEqProofs only [↓reduceIte, go_sem, qp, eEnc]
    have hl := encP_len qp
    refine ⟨by omega, ?_⟩
    exact .ext (.tup (.cons (Wk.trans .sla (Wk.eq (by simp [encC, u8]))) (.cons (.refl _) .nil))) (by simp [AV.lt, AV.ltL, lt_bytes])
  · have hq := q
    simp [Cav.ok] at hq
    obtain ⟨n, rfl⟩ := Int.eq_ofNat_of_zero_le (show 0 ≤ n by omega)
    have hl := numB_length (k := 7) (n := n) (by omega)
    have hl2 := numB_length (k := 7) (n := x.length) (by omega)
    refine ACalls.tidy (by simp) (ACalls.enter Tryd.call85 Tryd.func85 rfl ?_)
    refine AW.sound (unr nopl) mixed Tryd.func85 (by rw [Tryd.results85]) 100000 ?_
    simp -implicitDefEqProofs only [↓reduceIte, go_sem, Tryd.ntmps85]
    refine ACalls.useW (by repeat (first | exact WkL.nil | refine WkL.cons (Wk.refl _) ?_ | refine WkL.cons Wk.sla ?_ | refine WkL.cons Wk.sl ?_ | refine WkL.cons Wk.empty ?_ | refine WkL.cons Wk.nil ?_ | refine WkL.cons (Wk.node (by repeat' (first | exact WkL.nil | refine WkL.cons ?_ ?_ | exact Wk.refl _ | exact Wk.sla | exact Wk.sl | exact Wk.empty | exact Wk.nil | refine Wk.node ?_))) ?_)) (c_CValid ⟨true, p, n, x, y⟩ _) ?_
    simp -implicitDefEqProofs only [↓reduceIte, go_sem, q]
    refine ACalls.useW (by repeat (first | exact WkL.nil | refine WkL.cons (Wk.refl _) ?_ | refine WkL.cons Wk.sla ?_ | refine WkL.cons Wk.sl ?_ | refine WkL.cons Wk.empty ?_ | refine WkL.cons Wk.nil ?_ | refine WkL.cons (Wk.node (by repeat' (first | exact WkL.nil | refine WkL.cons ?_ ?_ | exact Wk.refl _ | exact Wk.sla | exact Wk.sl | exact Wk.empty | exact Wk.nil | refine Wk.node ?_))) ?_)) (c_varAppendW [2] n (by omega) (by simp) _) ?_
    simp -implicitDefEqProofs only [↓reduceIte, go_sem]
    refine ACalls.useW (by repeat (first | exact WkL.nil | refine WkL.cons (Wk.refl _) ?_ | refine WkL.cons Wk.sla ?_ | refine WkL.cons Wk.sl ?_ | refine WkL.cons Wk.empty ?_ | refine WkL.cons Wk.nil ?_ | refine WkL.cons (Wk.node (by repeat' (first | exact WkL.nil | refine WkL.cons ?_ ?_ | exact Wk.refl _ | exact Wk.sla | exact Wk.sl | exact Wk.empty | exact Wk.nil | refine Wk.node ?_))) ?_)) (c_fieldAppend (2 :: numB n) x (by omega) (by simp; omega) _) ?_
    simp -implicitDefEqProofs only [↓reduceIte, go_sem]
    refine ACalls.useW (by repeat (first | exact WkL.nil | refine WkL.cons (Wk.refl _) ?_ | refine WkL.cons Wk.sla ?_ | refine WkL.cons Wk.sl ?_ | refine WkL.cons Wk.empty ?_ | refine WkL.cons Wk.nil ?_ | refine WkL.cons (Wk.node (by repeat' (first | exact WkL.nil | refine WkL.cons ?_ ?_ | exact Wk.refl _ | exact Wk.sla | exact Wk.sl | exact Wk.empty | exact Wk.nil | refine Wk.node ?_))) ?_)) (c_fieldAppend (2 :: (numB n ++ fldB x)) y (by omega) (by simp [fldB]; omega) _) ?_
    simp -implicitDefEqProofs only [↓reduceIte, go_sem]
    exact .ext (.tup (.cons (Wk.eq (by simp [encC, u8])) (.cons (.refl _) .nil))) (by simp [eEnc, AV.lt, AV.ltL, lt_bytes])
theorem encC_len {c : Cav} (h : c.ok = true) : (encC c).length ≤ 3000 := by
  obtain ⟨t, p, n, x, y⟩ := c
  cases t
  · simp [Cav.ok] at h
    have := encP_len h.1.1.1
    simp [encC]; omega
  · simp [Cav.ok] at h
    have h1 := numB_length (k := 7) (n := n.toNat) (by omega)
    have h2 := numB_length (k := 7) (n := x.length) (by omega)
    have h3 := numB_length (k := 7) (n := y.length) (by omega)
    simp [encC, fldB]; omega

theorem c_Message (w b : By) (hb : b.length ≤ 1000000) (hw : w.length ≤ 100) (H : List Blk) : ACalls E 76 [.v (.string (strS w)), .sl 1 (b.map u8) false] H (Gives H (.sl 1 ((w ++ b).map u8) false)) := by
  refine ACalls.tidy (by simp) (ACalls.enter Tryd.call76 Tryd.func76 rfl ?_)
  refine AW.sound nopl mixed Tryd.func76 (by rw [Tryd.results76]) 1000 ?_
  simp -implicitDefEqProofs only [↓reduceIte, go_sem, Tryd.ntmps76]
  exact ⟨by omega, .ext .sla (lt_bytes _ _)⟩

theorem c_mint (n : Nat) (hn : n ≤ 281474976710656) (H : List Blk) : ACalls E 43 [.v (.int .i64 n)] H (Gives H (.sl 1 ((mintMsg n).map u8) false)) := by
  have hl := numB_length (k := 7) (n := n) (by omega)
  refine ACalls.tidy (by simp) (ACalls.enter Tryd.call43 Tryd.func43 rfl ?_)
  refine AW.sound nopl mixed Tryd.func43 (by rw [Tryd.results43]) 1000 ?_
  simp -implicitDefEqProofs only [↓reduceIte, go_sem, Tryd.ntmps43]
  refine ACalls.useW (by repeat (first | exact WkL.nil | refine WkL.cons (Wk.refl _) ?_ | refine WkL.cons Wk.sla ?_ | refine WkL.cons Wk.sl ?_ | refine WkL.cons Wk.empty ?_ | refine WkL.cons Wk.nil ?_ | refine WkL.cons (Wk.node (by repeat' (first | exact WkL.nil | refine WkL.cons ?_ ?_ | exact Wk.refl _ | exact Wk.sla | exact Wk.sl | exact Wk.empty | exact Wk.nil | refine Wk.node ?_))) ?_)) (c_varAppendW [] n hn (by simp) _) ?_
  simp -implicitDefEqProofs only [↓reduceIte, go_sem]
  refine ACalls.useW (by repeat (first | exact WkL.nil | refine WkL.cons (Wk.refl _) ?_ | refine WkL.cons Wk.sla ?_ | refine WkL.cons Wk.sl ?_ | refine WkL.cons Wk.empty ?_ | refine WkL.cons Wk.nil ?_ | refine WkL.cons (Wk.node (by repeat' (first | exact WkL.nil | refine WkL.cons ?_ ?_ | exact Wk.refl _ | exact Wk.sla | exact Wk.sl | exact Wk.empty | exact Wk.nil | refine Wk.node ?_))) ?_)) (c_Message [109, 105, 110, 116] (numB n) (by omega) (by simp) _) ?_
  simp -implicitDefEqProofs only [↓reduceIte, go_sem]
  exact .here (Wk.eq (by simp [mintMsg, u8])) (lt_bytes _ _)
def nodeW : By := [110, 111, 100, 101]
def Mk.node (hm : By → By → By) (m : Mk) (key msg : By) : Mk × By := (((m.mac hm key msg).1.mac hm (m.mac hm key msg).2 nodeW).1, (m.mac hm key msg).2)
theorem c_node {hm : By → By → By} {W : List Blk} {k t1 t2 : Nat} {m : Mk} (h : MkAt W k t1 t2 m) (ok : m.a.Ok) (hc : HmC hm m.a.free) (key msg : By) (hk : key.length = 32) :
    ACalls E 42 [.ptr k [] 0, .arr 1 (key.map u8), .sl 1 (msg.map u8) false] W (Gives (MkPut W k t1 t2 (m.node hm key msg).1) (.arr 1 ((m.node hm key msg).2.map u8))) := by
  obtain ⟨ok1, hl1, hf1⟩ := Mk.mac_ok hc.len m ok key msg hk
  refine ACalls.tidy (by rw [MkPut.len]; exact Nat.le_refl _) ?_

  refine ACalls.enter Tryd.call42 Tryd.func42 rfl ?_
  refine AW.sound nopl mixed Tryd.func42 (by rw [Tryd.results42]) 1000 ?_
  simp -implicitDefEqProofs only [↓reduceIte, go_sem, Tryd.ntmps42, hk, hl1]
  refine ACalls.useW (by repeat (first | exact WkL.nil | refine WkL.cons (Wk.refl _) ?_ | refine WkL.cons Wk.sla ?_ | refine WkL.cons Wk.sl ?_ | refine WkL.cons Wk.empty ?_ | refine WkL.cons Wk.nil ?_ | refine WkL.cons (Wk.node (by repeat' (first | exact WkL.nil | refine WkL.cons ?_ ?_ | exact Wk.refl _ | exact Wk.sla | exact Wk.sl | exact Wk.empty | exact Wk.nil | refine Wk.node ?_))) ?_)) (c_MacU0 h ok hc key msg hk _) ?_
  simp -implicitDefEqProofs only [↓reduceIte, go_sem, hk, hl1]
  refine ACalls.useW (by repeat (first | exact WkL.nil | refine WkL.cons (Wk.refl _) ?_ | refine WkL.cons Wk.sla ?_ | refine WkL.cons Wk.sl ?_ | refine WkL.cons Wk.empty ?_ | refine WkL.cons Wk.nil ?_ | refine WkL.cons (Wk.node (by repeat' (first | exact WkL.nil | refine WkL.cons ?_ ?_ | exact Wk.refl _ | exact Wk.sla | exact Wk.sl | exact Wk.empty | exact Wk.nil | refine Wk.node ?_))) ?_)) (c_MacU h ok1 (hf1 ▸ hc) _ nodeW hl1 _) ?_
  simp -implicitDefEqProofs only [↓reduceIte, go_sem, hk, hl1]
  exact .ext (.refl _) (lt_bytes _ _)
theorem c_nodeU0 {hm : By → By → By} {W : List Blk} {k t1 t2 : Nat} {m : Mk} (h : MkAt W k t1 t2 m) (ok : m.a.Ok) (hc : HmC hm m.a.free) (key msg : List UInt8) (hk : key.length = 32) (l : List Blk) :
    ACalls E 42 [.ptr k [] 0, .arr 1 (key.map u8), .sl 1 (msg.map u8) false] (W ++ l) (Gives (MkPut W k t1 t2 (m.node hm key msg).1 ++ l) (.arr 1 ((m.node hm key msg).2.map u8))) := by
  have := c_node (h.app l) ok hc key msg hk
  rwa [MkPut.app h] at this
theorem c_nodeU {hm : By → By → By} {W : List Blk} {k t1 t2 : Nat} {m0 m : Mk} (h : MkAt W k t1 t2 m0) (ok : m.a.Ok) (hc : HmC hm m.a.free) (key msg : List UInt8) (hk : key.length = 32) (l : List Blk) :
    ACalls E 42 [.ptr k [] 0, .arr 1 (key.map u8), .sl 1 (msg.map u8) false] (MkPut W k t1 t2 m ++ l) (Gives (MkPut W k t1 t2 (m.node hm key msg).1 ++ l) (.arr 1 ((m.node hm key msg).2.map u8))) := by
  have := c_node ((h.put m).app l) ok hc key msg hk
  rwa [MkPut.app (h.put m), MkPut.put h] at this

theorem c_Firsts (l : List Cav) (hl : l.length ≤ 1000) (H : List Blk) : ACalls E 117 [.sl 10 (l.map eCav) false] H (Gives H (.sl 6 (((l.filter (fun c => !c.third)).map (·.first)).map ePred) false)) := by
  refine ACalls.tidy (by simp) (ACalls.enter Tryd.call117 Tryd.func117 rfl ?_)
  refine AW.sound nopl mixed Tryd.func117 (by rw [Tryd.results117]) 1000 ?_
  simp -implicitDefEqProofs only [↓reduceIte, go_sem, Tryd.ntmps117]
  refine Lock.mk (AM.tokenNil (j := 3) 6 rfl ?_)
  simp only [go_sem]
  refine Lock.mk ?_
  refine AM.loopX (α := Nat) (fun i => i ≤ l.length) (fun i => l.length - i) (fun i => H ++ [.tok 6 (((l.take i).filter (fun c => !c.third)).map (·.first)).length]) (fun i => [.any, .any, .any, .sla 6 ((((l.take i).filter (fun c => !c.third)).map (·.first)).map ePred) H.length, .any, .any, .sl 10 (l.map eCav) false, .v (.int .i64 l.length), .v (.int .i64 i), .any, .any, .any, .any, .any, .any, .any, .any, .any, .any, .any, .any, .any]) (0) (Nat.zero_le _) (by repeat (first | exact WkL.nil | refine WkL.cons (Wk.refl _) ?_ | refine WkL.cons (Wk.any _) ?_ | refine WkL.cons Wk.sla ?_ | refine WkL.cons Wk.sl ?_ | refine WkL.cons Wk.empty ?_ | refine WkL.cons (Wk.int (by omega)) ?_ | refine WkL.cons (Wk.eq (by simp [u8])) ?_)) rfl ?_
  rintro i hi ih
  refine AW.sound nopl mixed Tryd.func117 (by rw [Tryd.results117]) 1000 ?_
  simp -implicitDefEqProofs only [↓reduceIte, go_sem]
  refine brk.dec (fun q => ?_) (fun q => ?_)
  · have q1 : i < l.length := by omega
    have w1 : IntKind.wrap .i64 (↑i + 1) = ((i + 1 : Nat) : Int) := by rw [wrap64 (by omega) (by omega)]; omega
    have et : l.take (i + 1) = l.take i ++ [l[i]] := by simp

    simp -implicitDefEqProofs only [↓reduceIte, go_sem, q1, getD_cav q1, w1]
    cases ht : l[i].third
    · have et2 : ((l.take (i + 1)).filter (fun c => !c.third)).map (·.first) = (((l.take i).filter (fun c => !c.third)).map (·.first)) ++ [l[i].first] := by rw [et, List.filter_append, List.map_append]; simp [ht]
      simp -implicitDefEqProofs only [↓reduceIte, go_sem, w1, q1, getD_cav q1, w1]
      refine ⟨by have := List.length_filter_le (fun c => !c.third) (l.take i); rw [List.length_take] at this; omega, ?_⟩
      refine Lock.mk (AM.drop (X := [.obj (eCav l[i])]) ?_ ?_ ?_ (by repeat (first | exact WkL.nil | refine WkL.cons (Wk.refl _) ?_ | refine WkL.cons (Wk.any _) ?_ | refine WkL.cons Wk.sla ?_ | refine WkL.cons Wk.sl ?_ | refine WkL.cons Wk.empty ?_ | refine WkL.cons (Wk.int (by omega)) ?_ | refine WkL.cons (Wk.eq (by simp [u8, et2, ePred, ht, eCav])) ?_)) (ih (i + 1) (q1) (by omega) _ _ (WkL.refl _) rfl))
      · first | rfl | (simp [et2, ePred, ht, eCav]; done)
      · first | exact Nat.le_refl _ | (simp; done) | (simp [DW.len, MkPut.len]; try omega)
      · first | (simp only [go_sem]; done) | (simp [AV.lt, AV.ltL, lt_bytes, ltL_cav, ltL_pred]; done) | (simp [AV.lt, AV.ltL, lt_bytes, ltL_cav, ltL_pred, DW.len, MkPut.len]; omega)
    · have et2 : ((l.take (i + 1)).filter (fun c => !c.third)).map (·.first) = (((l.take i).filter (fun c => !c.third)).map (·.first)) := by rw [et, List.filter_append, List.map_append]; simp [ht]
      simp -implicitDefEqProofs only [↓reduceIte, go_sem, w1, q1, getD_cav q1, w1]
      refine Lock.mk (AM.drop (X := [.obj (eCav l[i])]) ?_ ?_ ?_ (by repeat (first | exact WkL.nil | refine WkL.cons (Wk.refl _) ?_ | refine WkL.cons (Wk.any _) ?_ | refine WkL.cons Wk.sla ?_ | refine WkL.cons Wk.sl ?_ | refine WkL.cons Wk.empty ?_ | refine WkL.cons (Wk.int (by omega)) ?_ | refine WkL.cons (Wk.eq (by simp [u8, et2, ePred, ht, eCav])) ?_)) (ih (i + 1) (q1) (by omega) _ _ (WkL.refl _) rfl))
      · first | rfl | (simp [et2, ePred, ht, eCav]; done)
      · first | exact Nat.le_refl _ | (simp; done) | (simp [DW.len, MkPut.len]; try omega)
      · first | (simp only [go_sem]; done) | (simp [AV.lt, AV.ltL, lt_bytes, ltL_cav, ltL_pred]; done) | (simp [AV.lt, AV.ltL, lt_bytes, ltL_cav, ltL_pred, DW.len, MkPut.len]; omega)

  · simp -implicitDefEqProofs only [↓reduceIte, go_sem]
    obtain rfl : i = l.length := by omega
    rw [List.take_length]
    exact .ext .sla (by simp only [go_sem])
theorem filter_third (l : List Cav) : (l.filter (fun c => !c.third)).length + (l.filter (·.third)).length = l.length := by
  induction l with
  | nil => rfl
  | cons c l ih => cases h : c.third <;> simp [h] <;> omega
theorem c_thirds (l : List Cav) (hl : l.length ≤ 1000) (H : List Blk) : ACalls E 86 [.sl 10 (l.map eCav) false] H (Gives H (.v (.int .i64 (l.filter (·.third)).length))) := by
  refine ACalls.tidy (by simp) (ACalls.enter Tryd.call86 Tryd.func86 rfl ?_)
  refine AW.sound nopl mixed Tryd.func86 (by rw [Tryd.results86]) 1000 ?_
  simp -implicitDefEqProofs only [↓reduceIte, go_sem, Tryd.ntmps86]
  refine ACalls.useW (by repeat (first | exact WkL.nil | refine WkL.cons (Wk.refl _) ?_ | refine WkL.cons Wk.sla ?_ | refine WkL.cons Wk.sl ?_ | refine WkL.cons Wk.empty ?_ | refine WkL.cons Wk.nil ?_ | refine WkL.cons (Wk.node (by repeat' (first | exact WkL.nil | refine WkL.cons ?_ ?_ | exact Wk.refl _ | exact Wk.sla | exact Wk.sl | exact Wk.empty | exact Wk.nil | refine Wk.node ?_))) ?_)) (c_Firsts l hl _) ?_
  simp -implicitDefEqProofs only [↓reduceIte, go_sem]
  have := filter_third l
  exact .here (Wk.int (by rw [wrap64 (by omega) (by omega)]; omega)) trivial

theorem setCav {l : List Cav} {i : Nat} (h : i < l.length) : (l.map eCav).set i (eCav l[i]) = l.map eCav := by
  apply List.ext_getElem?
  intro j
  rw [List.getElem?_set]
  split
  · rename_i q; subst q; simp [h]
  · rfl
theorem c_CloneCav0 (H : List Blk) : ACalls E 118 [.sl 10 (([] : List Cav).map eCav) false] H (Gives H (.sl 10 (([] : List Cav).map eCav) false)) := by
  refine ACalls.tidy (by simp) (ACalls.enter Tryd.call118 Tryd.func118 rfl ?_)
  refine AW.sound nopl mixed Tryd.func118 (by rw [Tryd.results118]) 1000 ?_
  simp -implicitDefEqProofs only [↓reduceIte, go_sem, Tryd.ntmps118]
  intro b
  cases b
  · simp -implicitDefEqProofs only [↓reduceIte, go_sem]
    exact .ext .sla (by simp [AV.lt, AV.ltL])
  · simp -implicitDefEqProofs only [↓reduceIte, go_sem]
    exact .here Wk.nil (by simp [AV.lt, AV.ltL])
theorem c_CloneCav (l : List Cav) (hl : l.length ≤ 1000) (hn : l ≠ []) (H : List Blk) : ACalls E 118 [.sl 10 (l.map eCav) false] H (Gives (H ++ [.obj (.arr 10 (l.map eCav))]) (.asl H.length [] 0 10 l.length)) := by
  refine ACalls.tidy (by simp) (ACalls.enter Tryd.call118 Tryd.func118 rfl ?_)
  refine AW.sound (stopAt 3 nopl) mixed Tryd.func118 (by rw [Tryd.results118]) 1000 ?_
  simp -implicitDefEqProofs only [↓reduceIte, go_sem, Tryd.ntmps118]
  intro b hb
  have hb2 : b = false := by cases b; rfl; exact absurd (by simpa using hb rfl) hn
  subst hb2
  simp -implicitDefEqProofs only [↓reduceIte, go_sem]
  refine Lock.mk ?_
  refine AW.sound nopl mixed Tryd.func118 (by rw [Tryd.results118]) 3 ?_
  simp -implicitDefEqProofs only [↓reduceIte, go_sem]
  refine AM.appObj (s := .tmp 5) (x := .tmp 6) (ys := l.map eCav) (sz := 10) (s0 := 10) (cl := false) rfl rfl rfl rfl rfl ixk32 (of_eq_true tz57) tby57 (by decide) (of_eq_true noInt32) (by simpa using hn) (by rw [List.length_map]; omega) ?_
  refine AW.sound nopl mixed Tryd.func118 (by rw [Tryd.results118]) 1000 ?_
  simp -implicitDefEqProofs only [↓reduceIte, go_sem]
  exact .here (.refl _) (by simp [AV.lt])
theorem c_Copied (l : List Cav) (hl : l.length ≤ 1000) (hb : ∀ c ∈ l, c.ticket.length ≤ 1000000 ∧ c.box.length ≤ 1000000) (hn : l ≠ []) (H : List Blk) : ACalls E 87 [.sl 10 (l.map eCav) false] H (Gives H (.sl 10 (l.map eCav) false)) := by
  refine ACalls.tidy (by simp) (ACalls.enter Tryd.call87 Tryd.func87 rfl ?_)
  refine AW.sound pd87 mixed Tryd.func87 (by rw [Tryd.results87]) 1000 ?_
  simp -implicitDefEqProofs only [↓reduceIte, go_sem, Tryd.ntmps87]
  refine ACalls.useW (by repeat (first | exact WkL.nil | refine WkL.cons (Wk.refl _) ?_ | refine WkL.cons Wk.sla ?_ | refine WkL.cons Wk.sl ?_ | refine WkL.cons Wk.empty ?_ | refine WkL.cons Wk.nil ?_ | refine WkL.cons (Wk.node (by repeat' (first | exact WkL.nil | refine WkL.cons ?_ ?_ | exact Wk.refl _ | exact Wk.sla | exact Wk.sl | exact Wk.empty | exact Wk.nil | refine Wk.node ?_))) ?_)) (c_CloneCav l hl hn _) ?_
  simp -implicitDefEqProofs only [↓reduceIte, go_sem]
  refine Lock.mk ?_
  refine AM.loopX (α := Nat) (fun i => i ≤ l.length) (fun i => l.length - i) (fun i => H ++ [.obj (.arr 10 (l.map eCav))]) (fun i => [.any, .any, .any, .asl H.length [] 0 10 l.length, .any, .any, .any, .asl H.length [] 0 10 l.length, .v (.int .i64 l.length), .v (.int .i64 i), .any, .any, .any, .any, .any, .any, .any, .any, .any, .any, .any, .any, .any, .any, .any, .any, .any, .any, .any, .any, .any, .any, .any, .any]) (0) (Nat.zero_le _) (by repeat (first | exact WkL.nil | refine WkL.cons (Wk.refl _) ?_ | refine WkL.cons (Wk.any _) ?_ | refine WkL.cons Wk.sla ?_ | refine WkL.cons Wk.sl ?_ | refine WkL.cons Wk.empty ?_ | refine WkL.cons (Wk.int (by omega)) ?_ | refine WkL.cons (Wk.eq (by simp [u8])) ?_)) rfl ?_
  rintro i hi ih
  refine AW.sound (stopAt 7 pd87) mixed Tryd.func87 (by rw [Tryd.results87]) 1000 ?_
  simp -implicitDefEqProofs only [↓reduceIte, go_sem]
  refine brk.dec (fun q => ?_) (fun q => ?_)
  · have q1 : i < l.length := by omega
    have w1 : IntKind.wrap .i64 (↑i + 1) = ((i + 1 : Nat) : Int) := by rw [wrap64 (by omega) (by omega)]; omega
    have sc := setCav q1
    simp only [go_sem] at sc

    simp -implicitDefEqProofs only [↓reduceIte, go_sem, q1, getD_cav q1, sc, w1]
    try refine ⟨Lock.ok (by decide +kernel), ?_⟩
    refine ACalls.useW (by repeat (first | exact WkL.nil | refine WkL.cons (Wk.refl _) ?_ | refine WkL.cons Wk.sla ?_ | refine WkL.cons Wk.sl ?_ | refine WkL.cons Wk.empty ?_ | refine WkL.cons Wk.nil ?_ | refine WkL.cons (Wk.node (by repeat' (first | exact WkL.nil | refine WkL.cons ?_ ?_ | exact Wk.refl _ | exact Wk.sla | exact Wk.sl | exact Wk.empty | exact Wk.nil | refine Wk.node ?_))) ?_)) (c_CloneW _ (by have := hb _ (List.getElem_mem q1); omega) _) ?_
    simp -implicitDefEqProofs only [↓reduceIte, go_sem, q1, getD_cav q1, sc, w1]
    refine ACalls.useW (by repeat (first | exact WkL.nil | refine WkL.cons (Wk.refl _) ?_ | refine WkL.cons Wk.sla ?_ | refine WkL.cons Wk.sl ?_ | refine WkL.cons Wk.empty ?_ | refine WkL.cons Wk.nil ?_ | refine WkL.cons (Wk.node (by repeat' (first | exact WkL.nil | refine WkL.cons ?_ ?_ | exact Wk.refl _ | exact Wk.sla | exact Wk.sl | exact Wk.empty | exact Wk.nil | refine Wk.node ?_))) ?_)) (c_CloneW _ (by have := hb _ (List.getElem_mem q1); omega) _) ?_
    simp -implicitDefEqProofs only [↓reduceIte, go_sem, q1, getD_cav q1, sc, w1]
    refine Lock.mk (ih (i + 1) (q1) (by omega) _ _ (by repeat (first | exact WkL.nil | refine WkL.cons (Wk.refl _) ?_ | refine WkL.cons (Wk.any _) ?_ | refine WkL.cons Wk.sla ?_ | refine WkL.cons Wk.sl ?_ | refine WkL.cons Wk.empty ?_ | refine WkL.cons (Wk.int (by omega)) ?_ | refine WkL.cons (Wk.eq (by simp [u8])) ?_)) (by first | rfl | (simp; done)))

  · simp -implicitDefEqProofs only [↓reduceIte, go_sem]
    refine Lock.mk ?_
    refine AM.freeze (i := H.length) (a := .arr 10 (l.map eCav)) (by simp only [go_sem]) ?_
    refine AM.thaw (i := H.length) (j := 3) (p := []) (off := 0) (sz := 10) (len := l.length) (c := .arr 10 (l.map eCav)) (as' := l.map eCav) rfl (by simp only [go_sem]) rfl (by simp) ?_
    refine AW.sound pd87 mixed Tryd.func87 (by rw [Tryd.results87]) 1000 ?_
    simp -implicitDefEqProofs only [↓reduceIte, go_sem]
    exact .ext (.refl _) (by simp only [go_sem])
end Go.Mc
