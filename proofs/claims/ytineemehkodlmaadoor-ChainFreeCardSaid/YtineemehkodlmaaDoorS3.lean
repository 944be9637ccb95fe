/- Plain definitions and laws without the program: encodings of numbers and caveats, algebras, the hash function. -/
import Derived.Test.YtineemehkodlmaaDoorS2
set_option linter.all false
namespace Go.Mc
theorem getD_appL {α : Type} {l m : List α} {d : α} {i : Nat} (h : i < l.length) : (l ++ m).getD i d = l.getD i d := by
  simp only [List.getD_eq_getElem?_getD, List.getElem?_append_left h]
theorem getD_appR {α : Type} {l m : List α} {d : α} {i : Nat} (h : l.length ≤ i) : (l ++ m).getD i d = m.getD (i - l.length) d := by
  simp only [List.getD_eq_getElem?_getD, List.getElem?_append_right h]
/-! the hash function -/
def rotr (x : UInt32) (n : UInt32) : UInt32 := x >>> n ||| x <<< (32 - n)
def wd (b : By) (t : Nat) : UInt32 := (b.getD (4 * t) 0).toUInt32 <<< 24 ||| (b.getD (4 * t + 1) 0).toUInt32 <<< 16 ||| (b.getD (4 * t + 2) 0).toUInt32 <<< 8 ||| (b.getD (4 * t + 3) 0).toUInt32
def sg0 (x : UInt32) : UInt32 := rotr x 7 ^^^ rotr x 18 ^^^ x >>> 3
def sg1 (y : UInt32) : UInt32 := rotr y 17 ^^^ rotr y 19 ^^^ y >>> 10
/-- the numbers of the rounds, from the first one on -/
def sched (b : By) : Nat → List UInt32
  | 0 => []
  | t + 1 =>
    let w := sched b t
    w ++ [if t < 16 then wd b t else sg1 (w.getD (t - 2) 0) + w.getD (t - 7) 0 + sg0 (w.getD (t - 15) 0) + w.getD (t - 16) 0]
theorem sched_length (b : By) : ∀ t, (sched b t).length = t
  | 0 => rfl
  | t + 1 => by simp [sched, sched_length b t]
theorem sched_get (b : By) {t s : Nat} (h : t < s) : (sched b s).getD t 0 = (sched b (t + 1)).getD t 0 := by
  induction s with
  | zero => omega
  | succ s ih =>
    rcases Nat.lt_or_ge t s with h1 | h1
    · rw [← ih h1, sched, getD_appL (by rw [sched_length]; exact h1)]
    · obtain rfl : t = s := by omega
      rfl
theorem sched_last (b : By) (t : Nat) : (sched b (t + 1)).getD t 0 = if t < 16 then wd b t else sg1 ((sched b t).getD (t - 2) 0) + (sched b t).getD (t - 7) 0 + sg0 ((sched b t).getD (t - 15) 0) + (sched b t).getD (t - 16) 0 := by
  rw [sched, getD_appR (by rw [sched_length]; omega), sched_length, Nat.sub_self]; rfl

/-- one round -/
def rnd (k w : UInt32) (v : List UInt32) : List UInt32 :=
  let a := v.getD 0 0; let b := v.getD 1 0; let c := v.getD 2 0; let d := v.getD 3 0
  let e := v.getD 4 0; let f := v.getD 5 0; let g := v.getD 6 0; let h := v.getD 7 0
  let t1 := h + (rotr e 6 ^^^ rotr e 11 ^^^ rotr e 25) + (e &&& f ^^^ ~~~e &&& g) + k + w
  let t2 := (rotr a 2 ^^^ rotr a 13 ^^^ rotr a 22) + (a &&& b ^^^ a &&& c ^^^ b &&& c)
  [t1 + t2, a, b, c, d + t1, e, f, g]
def rnds (ks w v : List UInt32) : Nat → List UInt32
  | 0 => v
  | t + 1 => rnd (ks.getD t 0) (w.getD t 0) (rnds ks w v t)
theorem rnds_length (ks w v : List UInt32) (h : v.length = 8) : ∀ t, (rnds ks w v t).length = 8
  | 0 => h
  | _ + 1 => rfl
/-- the chaining value after a block -/
def chg (ks : List UInt32) (h : List UInt32) (b : By) : List UInt32 :=
  let v := rnds ks (sched b 64) h 64
  (List.range 8).map fun i => v.getD i 0 + h.getD i 0
theorem chg_length (ks h : List UInt32) (b : By) : (chg ks h b).length = 8 := by simp [chg]
/-- all whole blocks are taken up -/
def runB (ks : List UInt32) (h : List UInt32) (b : By) : List UInt32 × By := if b.length < 64 then (h, b) else runB ks (chg ks h (b.take 64)) (b.drop 64)
termination_by b.length
decreasing_by simp; omega
theorem runB_lt {ks h : List UInt32} {b : By} (l : b.length < 64) : runB ks h b = (h, b) := by rw [runB, if_pos l]
theorem runB_ge {ks h : List UInt32} {b : By} (l : ¬ b.length < 64) : runB ks h b = runB ks (chg ks h (b.take 64)) (b.drop 64) := by rw [runB, if_neg l]
theorem runB_length (ks : List UInt32) : ∀ {n : Nat} {h : List UInt32} {b : By}, b.length = n → h.length = 8 → (runB ks h b).1.length = 8 ∧ (runB ks h b).2.length < 64 ∧ (runB ks h b).2.length ≤ n := by
  intro n
  induction n using Nat.strongRecOn with
  | _ n ih =>
    intro h b hb hh
    by_cases l : b.length < 64
    · rw [runB_lt l]; exact ⟨hh, l, by simp only; omega⟩
    · rw [runB_ge l]
      obtain ⟨h1, h2, h3⟩ := ih (n - 64) (by omega) (b := b.drop 64) (h := chg ks h (b.take 64)) (by simp; omega) (chg_length ..)
      exact ⟨h1, h2, by omega⟩
theorem runB_append (ks : List UInt32) : ∀ {n : Nat} {h : List UInt32} {a : By} (b : By), a.length = n → runB ks h (a ++ b) = runB ks (runB ks h a).1 ((runB ks h a).2 ++ b) := by
  intro n
  induction n using Nat.strongRecOn with
  | _ n ih =>
    intro h a b ha
    by_cases l : a.length < 64
    · rw [runB_lt l]
    · rw [runB_ge (b := a) l, runB_ge (b := a ++ b) (by simp; omega), List.take_append_of_le_length (by omega), List.drop_append_of_le_length (by omega)]
      exact ih (n - 64) (by omega) b (by simp; omega)
def hInit : List UInt32 := [1779033703, 3144134277, 1013904242, 2773480762, 1359893119, 2600822924, 528734635, 1541459225]
/-- the bytes behind a text of n bytes -/
def padB (n : Nat) : By := 128 :: (zeros ((119 - n % 64) % 64) ++ be8u (UInt64.ofNat n * 8))
def outB (h : List UInt32) : By := h.flatMap fun (x : UInt32) => [(x >>> 24).toUInt8, (x >>> 16).toUInt8, (x >>> 8).toUInt8, x.toUInt8]
theorem outB_length (h : List UInt32) : (outB h).length = 4 * h.length := by
  induction h with
  | nil => rfl
  | cons x h ih => simp only [outB, List.flatMap_cons, List.length_append, List.length_cons, List.length_nil] at ih ⊢; omega
def shaL (ks : List UInt32) (b : By) : By := outB (runB ks hInit (b ++ padB b.length)).1
theorem shaL_length (ks : List UInt32) (b : By) : (shaL ks b).length = 32 := by
  rw [shaL, outB_length, (runB_length ks rfl rfl).1]
def xorL (x : UInt8) (l : By) : By := l.map fun c => c ^^^ x
/-- a key of at most 64 bytes, extended -/
def padK (key : By) (x : UInt8) : By := xorL x (key ++ zeros (64 - key.length))
def hmacL (ks : List UInt32) (key msg : By) : By :=
  let key := if 64 < key.length then shaL ks key else key
  shaL ks (padK key 92 ++ shaL ks (padK key 54 ++ msg))
theorem hmacL_length (ks : List UInt32) (key msg : By) : (hmacL ks key msg).length = 32 := shaL_length ..
end Go.Mc
