/- Abstract values and contracts of calls of the program: a part of the logic in which the claim is proved; it states nothing of the program by itself. -/
import Derived.Test.YtineemehkodlmaaDoorT19
set_option linter.all false
namespace Go.Mc

def preds (ops : Array Oper) (i : Nat) : List Nat :=
  match ops[i]? with
  | some o => (o.after.toList.filter (Region.binds .any)).map (·.on)
  | none => []
def pairOk (ops : Array Oper) (bef : List (List Nat)) (y x : DIt) : Bool :=
  ((bef.getD x.1 []).contains y.1 || swapOk ops y x) && (!(preds ops y.1).contains x.1 && !(y.1 == x.1))
def pairsOk (ops : Array Oper) (bef : List (List Nat)) : List DIt → Bool
  | [] => true
  | y :: l => l.all (pairOk ops bef y) && pairsOk ops bef l
def befOk (ops : Array Oper) (bef : List (List Nat)) : Bool :=
  (List.range ops.size).all fun i => (bef.getD i []).all fun y => (preds ops i).any fun j => j == y || (bef.getD j []).contains y
/-- is this order of ours one that stands for all the orders that may be drawn? -/
def planOk (ops : Array Oper) (plan : List DIt) (bef : List (List Nat)) : Bool :=
  plan.length == ops.size && ((List.range ops.size).all (fun i => (plan.map (·.1)).contains i) && (plan.all (fun x => decide (x.1 < ops.size) && (!(preds ops x.1).contains x.1 && (preds ops x.1).all (fun j => decide (j < ops.size)))) &&
    (pairsOk ops bef plan && (befOk ops bef && bef.length == ops.size))))

section
variable {ops : Array Oper} {bef : List (List Nat)}

def PairP (ops : Array Oper) (bef : List (List Nat)) (y x : DIt) : Prop :=
  (y.1 ∈ bef.getD x.1 [] ∨ swapOk ops y x = true) ∧ x.1 ∉ preds ops y.1 ∧ y.1 ≠ x.1

theorem pairOk_spec {y x : DIt} (h : pairOk ops bef y x = true) : PairP ops bef y x := by
  simp only [pairOk, Bool.and_eq_true, Bool.or_eq_true, List.contains_eq_mem, decide_eq_true_eq, Bool.not_eq_true', decide_eq_false_iff_not, beq_eq_false_iff_ne] at h
  exact ⟨h.1, h.2.1, h.2.2⟩
theorem pairsOk_spec : ∀ {l}, pairsOk ops bef l = true → l.Pairwise (PairP ops bef)
  | [], _ => .nil
  | y :: l, h => by
    simp only [pairsOk, Bool.and_eq_true, List.all_eq_true] at h
    exact .cons (fun x hx => pairOk_spec (h.1 x hx)) (pairsOk_spec h.2)

structure DInv (ops : Array Oper) (bef : List (List Nat)) (listed : Array Bool) (l : List DIt) (fuel : Nat) : Prop where
  len : l.length ≤ fuel
  sz : listed.size = ops.size
  un : ∀ i, i < ops.size → listed.getD i true = false → ∃ x ∈ l, x.1 = i
  nl : ∀ x ∈ l, listed.getD x.1 true = false
  pw : l.Pairwise (PairP ops bef)
  pr : ∀ x ∈ l, x.1 ∉ preds ops x.1 ∧ ∀ j ∈ preds ops x.1, j < ops.size
  cl : ∀ i, listed.getD i false = true → ∀ y ∈ bef.getD i [], listed.getD y false = true

theorem getD_ne {listed : Array Bool} {i : Nat} (h : listed.getD i true = false) : listed.getD i false = false ∧ i < listed.size := by
  by_cases q : i < listed.size
  · simp [q] at h; simp [h, q]
  · simp [q] at h
theorem getD_lt {listed : Array Bool} {i : Nat} (h : i < listed.size) (h' : listed.getD i false = false) : listed.getD i true = false := by
  simp [h] at h'; simp [h, h']

theorem ready_iff {listed : Array Bool} {i : Nat} : i ∈ Region.ready .any ops listed ↔ i < ops.size ∧ listed.getD i true = false ∧ ∀ j ∈ preds ops i, listed.getD j false = true := by
  simp only [Region.ready, List.mem_filter, List.mem_range, Bool.and_eq_true, Bool.not_eq_true']
  refine and_congr_right fun hi => and_congr_right fun _ => ?_
  simp only [preds, Array.getElem?_eq_getElem hi, Option.map_some, Option.getD_some, Array.all_eq_true', Bool.or_eq_true, Bool.not_eq_true', List.mem_map, List.mem_filter, forall_exists_index, and_imp]
  constructor
  · rintro h j e he hb rfl
    rcases h e (by simpa using he) with h | h
    · rw [hb] at h; simp at h
    · exact h
  · intro h e he
    cases hb : Region.binds .any e
    · exact .inl rfl
    · exact .inr (h _ e (by simpa using he) hb rfl)

theorem DInv.bef_listed {listed : Array Bool} {l : List DIt} {fuel i : Nat} (I : DInv ops bef listed l fuel) (hb : befOk ops bef = true) (hl : bef.length = ops.size) (hp : ∀ j ∈ preds ops i, listed.getD j false = true) :
    ∀ y ∈ bef.getD i [], listed.getD y false = true := by
  intro y hy
  by_cases hi : i < ops.size
  · simp only [befOk, List.all_eq_true, List.mem_range, List.any_eq_true, Bool.or_eq_true, beq_iff_eq, List.contains_eq_mem, decide_eq_true_eq] at hb
    obtain ⟨j, hj, h⟩ := hb i hi y hy
    rcases h with rfl | h
    · exact hp _ hj
    · exact I.cl j (hp j hj) y h
  · rw [List.getD_eq_getElem?_getD, List.getElem?_eq_none (by omega)] at hy
    simp at hy

theorem DInv.next {listed : Array Bool} {pre post : List DIt} {x : DIt} {fuel : Nat} (I : DInv ops bef listed (pre ++ x :: post) (fuel + 1)) (hb : befOk ops bef = true) (hl : bef.length = ops.size) (hp : ∀ j ∈ preds ops x.1, listed.getD j false = true) :
    DInv ops bef (listed.setIfInBounds x.1 true) (pre ++ post) fuel := by
  have hsub : (pre ++ post).Sublist (pre ++ x :: post) := List.Sublist.append_left (List.sublist_cons_self ..) pre
  have hx : x ∈ pre ++ x :: post := by simp
  have hne : ∀ y ∈ pre ++ post, y.1 ≠ x.1 := by
    intro y hy
    have hpw := I.pw
    rw [List.pairwise_append] at hpw
    rcases List.mem_append.1 hy with h | h
    · exact (hpw.2.2 y h x (by simp)).2.2
    · have := (List.pairwise_cons.1 hpw.2.1).1 y h
      exact fun q => this.2.2 q.symm
  refine ⟨?_, by simpa using I.sz, fun i hi hli => ?_, fun y hy => ?_, I.pw.sublist hsub, fun y hy => I.pr y (hsub.subset hy), fun i hi y hy => ?_⟩
  · have := I.len; simp at this ⊢; omega
  · have hne' : i ≠ x.1 := by
      rintro rfl
      simp [I.sz, hi] at hli
    have hli' : listed.getD i true = false := by
      have hsz : i < listed.size := by rw [I.sz]; exact hi
      simp [hsz, Ne.symm hne'] at hli
      simp [hsz, hli]
    obtain ⟨y, hy, rfl⟩ := I.un i hi hli'
    refine ⟨y, ?_, rfl⟩
    simp only [List.mem_append, List.mem_cons] at hy ⊢
    rcases hy with h | rfl | h
    · exact .inl h
    · exact absurd rfl hne'
    · exact .inr h
  · have h1 := I.nl y (hsub.subset hy)
    have h2 := (getD_ne h1).2
    simp [h2] at h1
    simp [h2, Ne.symm (hne y hy), h1]
  · have keep : ∀ j, listed.getD j false = true → (listed.setIfInBounds x.1 true).getD j false = true := by
      intro j hj
      have hjs : j < listed.size := by
        by_cases q : j < listed.size
        · exact q
        · simp [q] at hj
      simp [hjs] at hj
      simp [hjs, Array.getElem_setIfInBounds, hj]
    by_cases q : i = x.1
    · subst q; exact keep y (I.bef_listed hb hl hp y hy)
    · refine keep y (I.cl i ?_ y hy)
      have his : i < listed.size := by
        by_cases q' : i < listed.size
        · exact q'
        · simp [q'] at hi
      simp [his, Ne.symm q] at hi
      simp [his, hi]

theorem DInv.start {plan : List DIt} (h : planOk ops plan bef = true) : DInv ops bef (Array.replicate ops.size false) plan ops.size ∧ befOk ops bef = true ∧ bef.length = ops.size := by
  simp only [planOk, Bool.and_eq_true, beq_iff_eq, List.all_eq_true, List.mem_range, List.contains_eq_mem, decide_eq_true_eq, Bool.not_eq_true', decide_eq_false_iff_not, List.mem_map] at h
  obtain ⟨h1, h2, h3, h4, h5, h6⟩ := h
  have hpw := pairsOk_spec h4
  refine ⟨⟨by omega, by simp, fun i hi _ => h2 i hi, fun x hx => ?_, hpw, fun x hx => (h3 x hx).2, fun i hi => ?_⟩, h5, h6⟩
  · have hin : x.1 < ops.size := (h3 x hx).1
    simp [hin]
  · simp only [Array.getD, Array.size_replicate] at hi
    split at hi <;> simp at hi

theorem AXl_run {E : Prg} {f : FuncId} {m : Nat} {k : List Item} {Q : List Blk → Res → Prop} {K : List Blk → List AV → Prop} (hK : ∀ H ts, K H ts → AM E f m k H ts Q) (hb : befOk ops bef = true) (hl : bef.length = ops.size) :
    ∀ (fuel t : Nat) (listed : Array Bool) (l : List DIt) (D : Chks) (F : Frs) (H : List Blk) (ts : List AV), DInv ops bef listed l fuel → AXl E Q ops K l D F H ts →
      AMF E f m (.inRegion ops (Region.linearise.go .any ops fuel t listed []) :: k) F H ts Q := by
  intro fuel
  induction fuel with
  | zero =>
    intro t listed l D F H ts I h
    have : l = [] := List.eq_nil_of_length_eq_zero (by have := I.len; omega)
    subst this
    exact .done (hK _ _ h)
  | succ fuel ih =>
    intro t listed l D F H ts I h
    simp only [Region.linearise.go]
    change AMF E f m (.inRegion ops (match (Region.ready .any ops listed)[t % (Region.ready .any ops listed).length]? with
      | some i => Region.linearise.go .any ops fuel (t / (Region.ready .any ops listed).length) (listed.setIfInBounds i true) [i]
      | none => [].reverse) :: k) F H ts Q
    cases hi : (Region.ready .any ops listed)[t % (Region.ready .any ops listed).length]? with
    | none =>
      have hnil : Region.ready .any ops listed = [] := by
        cases hr : Region.ready .any ops listed with
        | nil => rfl
        | cons x xs =>
          rw [hr] at hi
          have hlt : t % (x :: xs).length < (x :: xs).length := Nat.mod_lt _ (by simp)
          simp at hi
          simp at hlt
          omega
      have hl0 : l = [] := by
        cases l with
        | nil => rfl
        | cons x post =>
          exfalso
          have hx := I.nl x (by simp)
          have hmem : x.1 ∈ Region.ready .any ops listed := by
            refine ready_iff.2 ⟨by have := (getD_ne hx).2; rw [I.sz] at this; exact this, hx, fun j hj => ?_⟩
            cases hq : listed.getD j false with
            | true => rfl
            | false =>
              exfalso
              have hjn := (I.pr x (by simp)).2 j hj
              obtain ⟨y, hy, rfl⟩ := I.un j hjn (getD_lt (by rw [I.sz]; exact hjn) hq)
              rcases List.mem_cons.1 hy with rfl | hy
              · exact (I.pr y (by simp)).1 hj
              · exact ((List.pairwise_cons.1 I.pw).1 y hy).2.1 hj
          rw [hnil] at hmem; simp at hmem
      subst hl0
      exact .done (hK _ _ h)
    | some i =>
      simp only []
      rw [linearise_go_acc, List.reverse_singleton, List.singleton_append]
      obtain ⟨hin, hun, hpr⟩ := ready_iff.1 (List.mem_of_getElem? hi)
      obtain ⟨x, hx, rfl⟩ := I.un i hin hun
      obtain ⟨pre, post, rfl⟩ := List.append_of_mem hx
      have hfront := AXl_front (pre := pre) h fun y hy => by
        have hpw := (List.pairwise_append.1 I.pw).2.2 y hy x (by simp)
        refine ⟨?_, hpw.2.2⟩
        rcases hpw.1 with hbf | hs
        · have h1 := I.bef_listed hb hl hpr y.1 hbf
          have h2 := (getD_ne (I.nl y (by simp [hy]))).1
          rw [h1] at h2; simp at h2
        · exact hs
      exact AMF.one (K := AXl E Q ops K (pre ++ post)) hfront fun D F H ts hh => ih _ _ _ D F H ts (I.next hb hl hpr) hh

theorem St.draw {gl : Nat → Option AV} {G : Ghost} {H : List Blk} {w : World} (h : St gl G H w) (n : Nat) : St gl G H { w with drawn := n } :=
  ⟨⟨h.base.1, h.base.2, h.base.3, h.base.4, h.base.5⟩, h.mem, h.sup, h.own, h.inj, fun k B e => BlkOk.keep (w := w) (w' := { w with drawn := n }) h.sup (.refl _ _) (fun _ => rfl) (fun _ hc => ⟨hc, rfl, fun _ => rfl⟩) (h.blk k B e), h.lt, h.gl⟩

/-- a region that draws its order -/
theorem AM.draw {E : Prg} {f : FuncId} {m : Nat} {k : List Item} {Q : List Blk → Res → Prop} {K : List Blk → List AV → Prop} {id : Nat} {plan : List DIt} {H : List Blk} {ts : List AV} (hmix : E.P.follows .mixedOrders = true) (hp : planOk ops plan bef = true)
    (hK : ∀ H ts, K H ts → AM E f m k H ts Q) (h : AXl E Q ops K plan (fun _ _ => True) (fun _ => none) H ts) : AM E f m (.code (.region id ops true) :: k) H ts Q := by
  obtain ⟨I, hb, hl⟩ := DInv.start hp
  intro hm hfx G w tm hs hv cs
  have hrun := AXl_run (f := f) (m := m) hK hb hl ops.size (w.tape w.drawn (.order (fr0 f).fn id)) _ plan _ _ H ts I h
  obtain ⟨e, w2, fr, hpost, hc, hfn, hlv⟩ := hrun hm hfx G w G { w with drawn := w.drawn + 1 } tm ⟨.refl _ _, Nat.le_refl _, fun b hb => ⟨rfl, hb.1, hb.2, hb.3, hb.4⟩⟩ (hs.draw _) hv
    ⟨fun d z e => by simp at e, fun d d' z z' e => by simp at e⟩ cs
  refine ⟨e, w2, fr, hpost, .of_steps (.one ?_) hc, hfn, hlv⟩
  rw [step_region_draw, Region.schedule, hmix, Bool.true_or, if_pos rfl]
  rfl
end
end Go.Mc
