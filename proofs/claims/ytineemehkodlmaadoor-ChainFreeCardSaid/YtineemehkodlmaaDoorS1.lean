/- Plain definitions and laws without the program: encodings of numbers and caveats, algebras, the hash function. -/
set_option linter.all false
namespace Go.Mc
abbrev By := List UInt8

/-- a number in groups of seven bits, the lowest ones first -/
def numB (n : Nat) : By := if n < 128 then [UInt8.ofNat n] else UInt8.ofNat (n % 128 + 128) :: numB (n / 128)
termination_by n
decreasing_by omega

theorem numB_lt {n : Nat} (h : n < 128) : numB n = [UInt8.ofNat n] := by rw [numB, if_pos h]
theorem numB_ge {n : Nat} (h : ¬ n < 128) : numB n = UInt8.ofNat (n % 128 + 128) :: numB (n / 128) := by rw [numB, if_neg h]
theorem u8_inj {a b : Nat} (h : UInt8.ofNat a = UInt8.ofNat b) (ha : a < 256) (hb : b < 256) : a = b := by
  have := congrArg UInt8.toNat h
  rwa [UInt8.toNat_ofNat', UInt8.toNat_ofNat', Nat.mod_eq_of_lt (by omega), Nat.mod_eq_of_lt (by omega)] at this
theorem numB_inj : ∀ {n m : Nat} {a b : By}, numB n ++ a = numB m ++ b → n = m ∧ a = b := by
  intro n
  induction n using Nat.strongRecOn with
  | _ n ih =>
    intro m a b h
    by_cases hn : n < 128 <;> by_cases hm : m < 128
    · rw [numB_lt hn, numB_lt hm] at h
      simp only [List.cons_append, List.nil_append, List.cons.injEq] at h
      exact ⟨u8_inj h.1 (by omega) (by omega), h.2⟩
    · rw [numB_lt hn, numB_ge hm] at h
      simp only [List.cons_append, List.nil_append, List.cons.injEq] at h
      have := u8_inj h.1 (by omega) (by omega)
      omega
    · rw [numB_ge hn, numB_lt hm] at h
      simp only [List.cons_append, List.nil_append, List.cons.injEq] at h
      have := u8_inj h.1 (by omega) (by omega)
      omega
    · rw [numB_ge hn, numB_ge hm] at h
      simp only [List.cons_append, List.cons.injEq] at h
      have h1 := u8_inj h.1 (by omega) (by omega)
      obtain ⟨h2, h3⟩ := ih (n / 128) (by omega) h.2
      exact ⟨by omega, h3⟩
theorem numB_length {k : Nat} : ∀ {n : Nat}, n < 128 ^ (k + 1) → (numB n).length ≤ k + 1 := by
  induction k with
  | zero => intro n h; rw [numB_lt (by simpa using h)]; simp
  | succ k ih =>
    intro n h
    by_cases hn : n < 128
    · rw [numB_lt hn]; simp
    · rw [numB_ge hn]
      have : n / 128 < 128 ^ (k + 1) := by rw [Nat.pow_succ] at h; omega
      have := ih this
      simp only [List.length_cons]; omega
theorem numB_ne (n : Nat) : numB n ≠ [] := by
  by_cases h : n < 128
  · rw [numB_lt h]; simp
  · rw [numB_ge h]; simp

/-- a field -/
def fldB (x : By) : By := numB x.length ++ x
theorem fldB_inj {x y a b : By} (h : fldB x ++ a = fldB y ++ b) : x = y ∧ a = b := by
  unfold fldB at h
  rw [List.append_assoc, List.append_assoc] at h
  obtain ⟨h1, h2⟩ := numB_inj h
  exact List.append_inj h2 h1

/-- the eight bytes of an unsigned number -/
def be8u (n : UInt64) : By := [(n >>> 56).toUInt8, (n >>> 48).toUInt8, (n >>> 40).toUInt8, (n >>> 32).toUInt8, (n >>> 24).toUInt8, (n >>> 16).toUInt8, (n >>> 8).toUInt8, (n >>> 0).toUInt8]
theorem be8u_inj {x y : UInt64} (h : be8u x = be8u y) : x = y := by
  simp only [be8u, List.cons.injEq, and_true] at h
  obtain ⟨h0, h1, h2, h3, h4, h5, h6, h7⟩ := h
  have key : ∀ k : Nat, k < 64 → ((x >>> UInt64.ofNat k).toUInt8 = (y >>> UInt64.ofNat k).toUInt8) → x.toNat / 2 ^ k % 256 = y.toNat / 2 ^ k % 256 := by
    intro k hk e
    have := congrArg UInt8.toNat e
    rwa [UInt64.toNat_toUInt8, UInt64.toNat_toUInt8, UInt64.toNat_shiftRight, UInt64.toNat_shiftRight, UInt64.toNat_ofNat', Nat.mod_eq_of_lt (show k < 2 ^ 64 by omega), Nat.mod_eq_of_lt hk, Nat.shiftRight_eq_div_pow, Nat.shiftRight_eq_div_pow] at this
  have e0 := key 56 (by omega) h0
  have e1 := key 48 (by omega) h1
  have e2 := key 40 (by omega) h2
  have e3 := key 32 (by omega) h3
  have e4 := key 24 (by omega) h4
  have e5 := key 16 (by omega) h5
  have e6 := key 8 (by omega) h6
  have e7 := key 0 (by omega) h7
  have := x.toNat_lt
  have := y.toNat_lt
  apply UInt64.toNat_inj.1
  simp only [Nat.reducePow] at e0 e1 e2 e3 e4 e5 e6 e7
  omega

structure Pred where
  kind : Int
  mask : UInt64
  frm : Int
  til : Int
  name : By
  num : Int
  deriving DecidableEq
def isName (s : By) : Bool := decide (1 ≤ s.length) && decide (s.length ≤ 16) && s.all fun c => decide (97 ≤ c.toNat) && decide (c.toNat ≤ 122)
def mBits (k : Int) : Nat := if k = 1 then 64 else if k = 2 then 32 else 7
def Pred.ok (p : Pred) : Bool :=
  if p.kind = 1 ∨ p.kind = 2 ∨ p.kind = 3 then decide (p.mask ≠ 0) && decide (p.mask.toNat < 2 ^ mBits p.kind) && decide (p = ⟨p.kind, p.mask, 0, 0, [], 0⟩)
  else if p.kind = 4 then decide (0 ≤ p.frm) && decide (p.frm ≤ p.til) && decide (p.til ≤ 67108864) && decide (p = ⟨p.kind, 0, p.frm, p.til, [], 0⟩)
  else if p.kind = 5 then decide (0 ≤ p.frm) && decide (p.frm < 1440) && decide (0 ≤ p.til) && decide (p.til < 1440) && decide (p = ⟨p.kind, 0, p.frm, p.til, [], 0⟩)
  else if p.kind = 6 then isName p.name && decide (p = ⟨p.kind, 0, 0, 0, p.name, 0⟩)
  else if p.kind = 7 then decide (0 ≤ p.num) && decide (p.num ≤ 1000000) && decide (p = ⟨p.kind, 0, 0, 0, [], p.num⟩)
  else false
def encP (p : Pred) : By :=
  numB p.kind.toNat ++ (if p.kind = 4 ∨ p.kind = 5 then numB p.frm.toNat ++ numB p.til.toNat else if p.kind = 6 then fldB p.name else if p.kind = 7 then numB p.num.toNat else be8u p.mask)

theorem Pred.ok_cases {p : Pred} (h : p.ok = true) :
    ((p.kind = 1 ∨ p.kind = 2 ∨ p.kind = 3) ∧ p = ⟨p.kind, p.mask, 0, 0, [], 0⟩) ∨ ((p.kind = 4 ∨ p.kind = 5) ∧ 0 ≤ p.frm ∧ 0 ≤ p.til ∧ p = ⟨p.kind, 0, p.frm, p.til, [], 0⟩) ∨
    (p.kind = 6 ∧ isName p.name = true ∧ p = ⟨p.kind, 0, 0, 0, p.name, 0⟩) ∨ (p.kind = 7 ∧ 0 ≤ p.num ∧ p = ⟨p.kind, 0, 0, 0, [], p.num⟩) := by
  unfold Pred.ok at h
  split at h
  · simp only [Bool.and_eq_true, decide_eq_true_eq] at h; exact .inl ⟨‹_›, h.2⟩
  split at h
  · simp only [Bool.and_eq_true, decide_eq_true_eq] at h; exact .inr (.inl ⟨.inl ‹_›, by omega, by omega, h.2⟩)
  split at h
  · simp only [Bool.and_eq_true, decide_eq_true_eq] at h; exact .inr (.inl ⟨.inr ‹_›, by omega, by omega, h.2⟩)
  split at h
  · simp only [Bool.and_eq_true, decide_eq_true_eq] at h; exact .inr (.inr (.inl ⟨‹_›, h.1, h.2⟩))
  split at h
  · simp only [Bool.and_eq_true, decide_eq_true_eq] at h; exact .inr (.inr (.inr ⟨‹_›, by omega, h.2⟩))
  · simp at h

theorem encP_inj {p q : Pred} (hp : p.ok = true) (hq : q.ok = true) (h : encP p = encP q) : p = q := by
  unfold encP at h
  obtain ⟨h1, h2⟩ := numB_inj h
  have k1 : 1 ≤ p.kind := by rcases Pred.ok_cases hp with h | h | h | h <;> omega
  have k2 : 1 ≤ q.kind := by rcases Pred.ok_cases hq with h | h | h | h <;> omega
  have hk : p.kind = q.kind := by omega
  rcases Pred.ok_cases hp with ⟨a, e⟩ | ⟨a, a1, a2, e⟩ | ⟨a, a1, e⟩ | ⟨a, a1, e⟩ <;> rcases Pred.ok_cases hq with ⟨b, f⟩ | ⟨b, b1, b2, f⟩ | ⟨b, b1, f⟩ | ⟨b, b1, f⟩ <;> first | omega | skip
  · rw [if_neg (by omega), if_neg (by omega), if_neg (by omega), if_neg (by omega), if_neg (by omega), if_neg (by omega)] at h2
    rw [e, f, be8u_inj h2, hk]
  · rw [if_pos a, if_pos b] at h2
    obtain ⟨h3, h4⟩ := numB_inj h2
    have h5 := numB_inj (a := []) (b := []) (by simpa using h4)
    rw [e, f, hk, show p.frm = q.frm by omega, show p.til = q.til by omega]
  · rw [if_neg (by omega), if_pos a, if_neg (by omega), if_pos b] at h2
    have := (fldB_inj (a := []) (b := []) (by simpa using h2)).1
    rw [e, f, hk, this]
  · rw [if_neg (by omega), if_neg (by omega), if_pos a, if_neg (by omega), if_neg (by omega), if_pos b] at h2
    have := (numB_inj (a := []) (b := []) (by simpa using h2)).1
    rw [e, f, hk, show p.num = q.num by omega]

structure Cav where
  third : Bool
  first : Pred
  party : Int
  ticket : By
  box : By
  deriving DecidableEq
def Pred.zero : Pred := ⟨0, 0, 0, 0, [], 0⟩
def Cav.ok (c : Cav) : Bool :=
  if c.third then decide (c.first = Pred.zero) && decide (0 ≤ c.party) && decide (c.party ≤ 7) && decide (1 ≤ c.ticket.length) && decide (c.ticket.length ≤ 1024) && decide (1 ≤ c.box.length) && decide (c.box.length ≤ 1024)
  else c.first.ok && decide (c.party = 0) && decide (c.ticket.length = 0) && decide (c.box.length = 0)
def encC (c : Cav) : By := if c.third then 2 :: (numB c.party.toNat ++ (fldB c.ticket ++ fldB c.box)) else 1 :: encP c.first
theorem encC_inj {c d : Cav} (hc : c.ok = true) (hd : d.ok = true) (h : encC c = encC d) : c = d := by
  obtain ⟨t, p, n, x, y⟩ := c
  obtain ⟨t', p', n', x', y'⟩ := d
  unfold Cav.ok at hc hd
  unfold encC at h
  cases t <;> cases t' <;> simp only [Bool.and_eq_true, decide_eq_true_eq, if_true, if_false, Bool.false_eq_true, List.length_eq_zero_iff] at hc hd h
  · simp only [List.cons.injEq, true_and] at h
    have := encP_inj hc.1.1.1 hd.1.1.1 h
    simp only [Cav.mk.injEq]
    refine ⟨trivial, this, ?_, ?_, ?_⟩
    · omega
    · rw [hc.1.2, hd.1.2]
    · rw [hc.2, hd.2]
  · simp at h
  · simp at h
  · simp only [List.cons.injEq, true_and] at h
    obtain ⟨h1, h2⟩ := numB_inj h
    obtain ⟨h3, h4⟩ := fldB_inj h2
    have h5 := (fldB_inj (a := []) (b := []) (by simpa using h4)).1
    simp only [Cav.mk.injEq]
    exact ⟨trivial, by rw [hc.1.1.1.1.1.1, hd.1.1.1.1.1.1], by omega, h3, h5⟩
end Go.Mc
