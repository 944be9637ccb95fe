/- Plain definitions and laws without the program: encodings of numbers and caveats, algebras, the hash function. -/
import Derived.Test.YtineemehkodlmaaDoorT22
import Derived.Test.YtineemehkodlmaaDoorS1
set_option linter.all false
namespace Go.Mc
structure Mac where
  key : List UInt8
  msg : List UInt8
  tag : List UInt8
structure Sealed where
  key : List UInt8
  nonce : Int
  plain : List UInt8
  box : List UInt8
structure Alg where
  free : Bool
  seed : List UInt8
  fresh : Int
  macs : List Mac
  boxes : List Sealed
structure Mk where
  a : Alg
  e : Int
structure Mac.Ok (x : Mac) : Prop where
  key : x.key.length = 32
  tag : x.tag.length = 32
  msg : x.msg.length ≤ 4096
structure Sealed.Ok (x : Sealed) : Prop where
  key : x.key.length = 32
  plain : x.plain.length ≤ 256
  box : x.box.length ≤ 296
structure Alg.Ok (a : Alg) : Prop where
  seed : a.seed.length = 32
  macs : ∀ x ∈ a.macs, x.Ok
  boxes : ∀ x ∈ a.boxes, x.Ok
  lm : a.macs.length ≤ 65536
  lb : a.boxes.length ≤ 65536
  f0 : 0 ≤ a.fresh
  f1 : a.fresh ≤ 65536
def Alg.zero : Alg := ⟨false, zeros 32, 0, [], []⟩

/-- the eight bytes of a number -/
def be8 (n : Int) : By := [UInt8.ofInt (ishr .i64 n 56), UInt8.ofInt (ishr .i64 n 48), UInt8.ofInt (ishr .i64 n 40), UInt8.ofInt (ishr .i64 n 32), UInt8.ofInt (ishr .i64 n 24), UInt8.ofInt (ishr .i64 n 16), UInt8.ofInt (ishr .i64 n 8), UInt8.ofInt (ishr .i64 n 0)]
/-- a tag that is not computed -/
def symL (kind : UInt8) (n : Int) : By := [115, 121, 109, 98, 111, 108, kind] ++ be8 n ++ zeros 17
theorem symL_length (kind : UInt8) (n : Int) : (symL kind n).length = 32 := by simp [symL, be8, zeros_length]
theorem wrap64u (n : Int) : IntKind.wrap .u64 n = ↑(UInt64.ofInt n).toNat := by
  have : IntKind.wrap .u64 n = n % 18446744073709551616 := by
    simp only [IntKind.wrap, IntKind.bits, IntKind.signed, Bool.false_and, Bool.false_eq_true, if_false]; rfl
  rw [this, UInt64.ofInt, UInt64.toNat_ofNat']; omega
theorem be8_byte (n : Int) (k : Nat) (hk : k = 0 ∨ k = 8 ∨ k = 16 ∨ k = 24 ∨ k = 32 ∨ k = 40 ∨ k = 48 ∨ k = 56) : ((UInt64.ofInt n) >>> UInt64.ofNat k).toUInt8 = UInt8.ofInt (ishr .i64 n k) := by
  apply UInt8.toNat_inj.1
  rw [UInt64.toNat_toUInt8, UInt64.toNat_shiftRight, UInt8.ofInt, UInt8.toNat_ofNat', UInt64.ofInt, UInt64.toNat_ofNat', UInt64.toNat_ofNat']
  rw [Nat.mod_eq_of_lt (show k < 2 ^ 64 by omega), Nat.mod_eq_of_lt (show k < 64 by omega), Nat.shiftRight_eq_div_pow]
  unfold ishr
  show _ = ((Int.fdiv n (2 ^ min k 64)) % 2 ^ 8).toNat % 2 ^ 8
  rw [Nat.min_eq_left (by omega), Int.fdiv_eq_ediv_of_nonneg _ (Int.le_of_lt (Int.pow_pos (by decide)))]
  rcases hk with rfl | rfl | rfl | rfl | rfl | rfl | rfl | rfl <;> simp only [Nat.reducePow, Int.reducePow] <;> omega
theorem be8_eq (n : Int) : be8u (UInt64.ofInt n) = be8 n := by
  have h := be8_byte n
  simp only [be8u, be8, List.cons.injEq, and_true]
  exact ⟨h 56 (by omega), h 48 (by omega), h 40 (by omega), h 32 (by omega), h 24 (by omega), h 16 (by omega), h 8 (by omega), h 0 (by omega)⟩
theorem be8_inj {n m : Int} (h : be8 n = be8 m) (h0 : 0 ≤ n) (h1 : n < 18446744073709551616) (h2 : 0 ≤ m) (h3 : m < 18446744073709551616) : n = m := by
  rw [← be8_eq, ← be8_eq] at h
  have := congrArg UInt64.toNat (be8u_inj h)
  rw [UInt64.ofInt, UInt64.ofInt, UInt64.toNat_ofNat', UInt64.toNat_ofNat'] at this
  omega
theorem symL_inj {k k' : UInt8} {n m : Int} (h : symL k n = symL k' m) (h0 : 0 ≤ n) (h1 : n < 18446744073709551616) (h2 : 0 ≤ m) (h3 : m < 18446744073709551616) : k = k' ∧ n = m := by
  unfold symL at h
  have h4 := List.append_inj_left h (by simp [be8])
  simp only [List.cons_append, List.nil_append, List.cons.injEq, true_and] at h4
  exact ⟨h4.1, be8_inj h4.2 h0 h1 h2 h3⟩

/-- an error is noted, if there is none yet -/
def Mk.fail (m : Mk) (e : Int) : Mk := ⟨m.a, if m.e = 0 then e else m.e⟩
/-- a tag is made; hm makes tags that are computed -/
def Mk.mac (hm : By → By → By) (m : Mk) (key msg : By) : Mk × By :=
  if 4096 < msg.length then (m.fail 2, zeros 32) else if m.e ≠ 0 then (m, zeros 32) else
  match m.a.macs.findIdx? (fun x => x.key == key && x.msg == msg) with
  | some i => (m, (m.a.macs.map (·.tag)).getD i [])
  | none => if 65536 < m.a.macs.length + 1 then (m.fail 2, zeros 32) else
    let t := if m.a.free then symL 109 (m.a.macs.length + 1) else hm key msg
    (⟨{ m.a with macs := m.a.macs ++ [⟨key, msg, t⟩] }, m.e⟩, t)

/-! free algebras -/
/-- the entries are different, and have the symbols of their places -/
structure Alg.Free (a : Alg) : Prop where
  free : a.free = true
  tag : ∀ i (h : i < a.macs.length), a.macs[i].tag = symL 109 (i + 1)
  uni : ∀ i j (hi : i < a.macs.length) (hj : j < a.macs.length), a.macs[i].key = a.macs[j].key → a.macs[i].msg = a.macs[j].msg → i = j
def Alg.Has (a : Alg) (key msg tag : By) : Prop := ⟨key, msg, tag⟩ ∈ a.macs
theorem Mac.eta (x : Mac) : (⟨x.key, x.msg, x.tag⟩ : Mac) = x := rfl
theorem Alg.Free.inj {a : Alg} (h : a.Free) (hl : a.macs.length ≤ 65536) {k k' m m' t : By} (h1 : a.Has k m t) (h2 : a.Has k' m' t) : k = k' ∧ m = m' := by
  obtain ⟨i, hi, e1⟩ := List.mem_iff_getElem.1 h1
  obtain ⟨j, hj, e2⟩ := List.mem_iff_getElem.1 h2
  have t1 := h.tag i hi
  have t2 := h.tag j hj
  rw [e1] at t1; rw [e2] at t2
  have := (symL_inj (t1.symm.trans t2) (by omega) (by omega) (by omega) (by omega)).2
  obtain rfl : i = j := by omega
  rw [e1] at e2
  simp only [Mac.mk.injEq] at e2
  exact ⟨e2.1, e2.2.1⟩
theorem Alg.Free.fn {a : Alg} (h : a.Free) {k m t t' : By} (h1 : a.Has k m t) (h2 : a.Has k m t') : t = t' := by
  obtain ⟨i, hi, e1⟩ := List.mem_iff_getElem.1 h1
  obtain ⟨j, hj, e2⟩ := List.mem_iff_getElem.1 h2
  have := h.uni i j hi hj (by rw [e1, e2]) (by rw [e1, e2])
  subst this
  rw [e1] at e2
  simp only [Mac.mk.injEq] at e2
  exact e2.2.2

/-- a tag that is made in a free algebra -/
theorem Mk.mac_free {hm : By → By → By} {m m' : Mk} {key msg t : By} (h : m.mac hm key msg = (m', t)) (e : m'.e = 0) (f : m.a.Free) (hl : m.a.macs.length ≤ 65536) :
    m.e = 0 ∧ m'.a.Free ∧ m'.a.macs.length ≤ 65536 ∧ m'.a.Has key msg t ∧ (∀ k g u, m.a.Has k g u → m'.a.Has k g u) := by
  unfold Mk.mac at h
  split at h
  · simp only [Prod.mk.injEq] at h
    obtain ⟨rfl, rfl⟩ := h
    simp only [Mk.fail] at e
    split at e <;> simp_all
  split at h
  · simp only [Prod.mk.injEq] at h
    obtain ⟨rfl, rfl⟩ := h
    simp_all
  rename_i e0
  simp only [ne_eq, Decidable.not_not] at e0
  split at h
  · rename_i i hf
    simp only [Prod.mk.injEq] at h
    obtain ⟨rfl, rfl⟩ := h
    obtain ⟨hi, hp, -⟩ := List.findIdx?_eq_some_iff_getElem.1 hf
    simp only [Bool.and_eq_true, beq_iff_eq] at hp
    refine ⟨e0, f, hl, ?_, fun _ _ _ q => q⟩
    have : (m.a.macs.map (·.tag)).getD i [] = m.a.macs[i].tag := by simp [List.getD_eq_getElem?_getD, hi]
    rw [this]
    unfold Alg.Has
    rw [← hp.1, ← hp.2]
    exact List.getElem_mem hi
  · rename_i hf
    split at h
    · simp only [Prod.mk.injEq] at h
      obtain ⟨rfl, rfl⟩ := h
      simp_all [Mk.fail]
    · simp only [f.free, if_true, Prod.mk.injEq] at h
      obtain ⟨rfl, rfl⟩ := h
      have hn : ∀ x ∈ m.a.macs, ¬ (x.key = key ∧ x.msg = msg) := by
        intro x hx q
        have := List.findIdx?_eq_none_iff.1 hf x hx
        simp [q.1, q.2] at this
      refine ⟨e0, ⟨rfl, ?_, ?_⟩, by simp; omega, by simp [Alg.Has], fun k g u q => by simp only [Alg.Has, List.mem_append] at q ⊢; exact .inl q⟩
      · intro i hi
        simp only [List.length_append, List.length_cons, List.length_nil] at hi
        simp only [List.getElem_append]
        split
        · exact f.tag i _
        · obtain rfl : i = m.a.macs.length := by omega
          simp
      · intro i j hi hj
        simp only [List.length_append, List.length_cons, List.length_nil] at hi hj
        simp only [List.getElem_append]
        split <;> split <;> rename_i q1 q2
        · exact f.uni i j q1 q2
        · intro k1 k2
          simp only [List.getElem_singleton] at k1 k2
          exact absurd ⟨k1, k2⟩ (hn _ (List.getElem_mem q1))
        · intro k1 k2
          simp only [List.getElem_singleton] at k1 k2
          exact absurd ⟨k1.symm, k2.symm⟩ (hn _ (List.getElem_mem q2))
        · intro _ _; omega

def mintMsg (s : Int) : By := [109, 105, 110, 116] ++ numB s.toNat
def cavMsg (c : Cav) : By := [99, 97, 118, 101, 97, 116] ++ encC c
/-- the chain of a pass in an algebra; the caveats from the last one -/
inductive Chain (a : Alg) (root : By) (s : Int) : List Cav → By → Prop
  | mint {t} : a.Has root (mintMsg s) t → Chain a root s [] t
  | cav {l c t u} : Chain a root s l t → a.Has t (cavMsg c) u → c.ok = true → Chain a root s (c :: l) u
theorem Chain.mono {a b : Alg} {root : By} {s : Int} (h : ∀ k g u, a.Has k g u → b.Has k g u) {l : List Cav} {t : By} (c : Chain a root s l t) : Chain b root s l t := by
  induction c with
  | mint q => exact .mint (h _ _ _ q)
  | cav _ q k ih => exact .cav ih (h _ _ _ q) k
theorem mint_cav (s : Int) (c : Cav) : mintMsg s ≠ cavMsg c := by simp [mintMsg, cavMsg]
theorem cavMsg_inj {c d : Cav} (hc : c.ok = true) (hd : d.ok = true) (h : cavMsg c = cavMsg d) : c = d := encC_inj hc hd (List.append_cancel_left h)
theorem mintMsg_inj {s r : Int} (hs : 0 ≤ s) (hr : 0 ≤ r) (h : mintMsg s = mintMsg r) : s = r := by
  have := (numB_inj (a := []) (b := []) (by simpa using List.append_cancel_left h)).1
  omega
theorem Chain.inj {a : Alg} (hf : a.Free) (hl : a.macs.length ≤ 65536) {root : By} {s r : Int} (hs : 0 ≤ s) (hr : 0 ≤ r) : ∀ {l : List Cav} {t : By}, Chain a root s l t → ∀ {l'}, Chain a root r l' t → s = r ∧ l = l' := by
  intro l t h
  induction h with
  | mint h =>
    intro l' h'
    cases h' with
    | mint h' => exact ⟨mintMsg_inj hs hr (hf.inj hl h h').2, rfl⟩
    | cav _ h' _ => exact absurd (hf.inj hl h h').2 (mint_cav _ _)
  | cav h1 h k ih =>
    intro l' h'
    cases h' with
    | mint h' => exact absurd (hf.inj hl h h').2.symm (mint_cav _ _)
    | cav h1' h' k' =>
      obtain ⟨rfl, e⟩ := hf.inj hl h h'
      obtain ⟨rfl, rfl⟩ := ih h1'
      exact ⟨rfl, by rw [cavMsg_inj k k' e]⟩
theorem Chain.fn {a : Alg} (hf : a.Free) {root : By} {s : Int} {l : List Cav} : ∀ {t u : By}, Chain a root s l t → Chain a root s l u → t = u := by
  induction l with
  | nil => intro t u h h'; cases h with | mint h => cases h' with | mint h' => exact hf.fn h h'
  | cons c l ih =>
    intro t u h h'
    cases h with | cav h1 h2 _ => cases h' with | cav h1' h2' _ =>
      obtain rfl := ih h1 h1'
      exact hf.fn h2 h2'
end Go.Mc
