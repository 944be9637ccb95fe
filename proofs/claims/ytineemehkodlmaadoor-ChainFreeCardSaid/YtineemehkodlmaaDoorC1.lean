/- Laws of bytes, numbers and heaps for the walks. -/
import Derived.Test.YtineemehkodlmaaDoorT23
import Derived.Test.YtineemehkodlmaaDoorMtD
import Derived.Test.YtineemehkodlmaaDoorPlD
set_option linter.all false
set_option maxRecDepth 100000
namespace Go.Mc
theorem mixed : E.P.follows .mixedOrders = true := by kernel_rfl

/-! strings and bytes -/
def strB (s : ByteArray) : List UInt8 := s.data.toList
@[go_sem] theorem bytesAV_map (s : ByteArray) : bytesAV s = (strB s).map u8 := rfl
@[go_sem] theorem allB_map (l : List UInt8) : allB (l.map u8) = True := by
  refine eq_true fun a ha => ?_
  obtain ⟨x, -, rfl⟩ := List.mem_map.1 ha
  rfl
def strS (l : List UInt8) : ByteArray := ⟨l.toArray⟩
@[go_sem] theorem strAV_map (l : List UInt8) : strAV (l.map u8) = strS l := by
  have : ((l.map u8).map numAV).map (fun n => UInt8.ofNat n.toNat) = l := by
    rw [List.map_map, List.map_map]
    conv => rhs; rw [← List.map_id l]
    refine List.map_congr_left fun x _ => ?_
    simp [u8, numAV]
  simp only [strAV, strOfNums, this, strS]
@[go_sem] theorem strB_strS (l : List UInt8) : strB (strS l) = l := by simp [strB, strS]
theorem strS_strB (s : ByteArray) : strS (strB s) = s := by simp [strB, strS]
theorem toList_loop (bs : ByteArray) : ∀ (n i : Nat) (r : List UInt8), bs.size - i = n → ByteArray.toList.loop bs i r = r.reverse ++ bs.data.toList.drop i := by
  intro n
  induction n with
  | zero =>
    intro i r h
    rw [ByteArray.toList.loop]
    have hge : ¬ i < bs.size := by omega
    rw [if_neg hge]
    rw [List.drop_eq_nil_of_le (by rw [Array.length_toList]; exact Nat.not_lt.1 hge)]; simp
  | succ n ih =>
    intro i r h
    rw [ByteArray.toList.loop]
    have hlt : i < bs.size := by omega
    rw [if_pos hlt]
    rw [ih (i + 1) _ (by omega)]
    have hl : i < bs.data.toList.length := by rw [Array.length_toList]; exact hlt
    rw [List.drop_eq_getElem_cons hl, List.reverse_cons, List.append_assoc]
    congr 1
    simp only [List.cons_append, List.nil_append, List.cons.injEq, and_true]
    simp only [ByteArray.size] at hlt
    simp only [ByteArray.get!]
    exact getElem!_pos bs.data i hlt
@[go_sem] theorem toList_strB (s : ByteArray) : s.toList = strB s := by
  rw [ByteArray.toList, toList_loop s _ 0 [] rfl]; simp [strB]

@[go_sem] theorem ltL_u8 (n : Nat) (l : List UInt8) : AV.ltL n (l.map u8) = True := by
  refine eq_true ((AV.ltL_iff n _).2 fun a ha => ?_)
  obtain ⟨x, -, rfl⟩ := List.mem_map.1 ha
  simp [u8, AV.lt]
theorem getD_map_lt {α : Type} {f : α → AV} {l : List α} {n : Nat} (d : α) (h : n < l.length) : (l.map f).getD n .undef = f (l.getD n d) := by
  simp [List.getD_eq_getElem?_getD, h]
@[go_sem] theorem getD_u8 {l : List UInt8} {n : Nat} (h : n < l.length) : (l.map u8).getD n .undef = .v (.int .u8 (l.getD n 0).toNat) := getD_map_lt 0 h
@[go_sem] theorem take_map {α : Type} (f : α → AV) (l : List α) (n : Nat) : (l.map f).take n = (l.take n).map f := by simp
@[go_sem] theorem drop_map {α : Type} (f : α → AV) (l : List α) (n : Nat) : (l.map f).drop n = (l.drop n).map f := by simp
@[go_sem] theorem app_map {α : Type} (f : α → AV) (l m : List α) : l.map f ++ m.map f = (l ++ m).map f := by simp
theorem u8_ofInt (n : Int) : u8 (UInt8.ofInt n) = .v (.int .u8 (IntKind.wrap .u8 n)) := by
  have : ((UInt8.ofInt n).toNat : Int) = n % 256 := by
    rw [UInt8.ofInt, UInt8.toNat_ofNat']; omega
  simp only [u8, IntKind.wrap, IntKind.bits, IntKind.signed, Bool.false_and, Bool.false_eq_true, if_false, this]
  rfl
theorem u8_lit {n : Int} (h0 : 0 ≤ n) (h1 : n < 256) : u8 (UInt8.ofInt n) = .v (.int .u8 n) := by
  rw [u8_ofInt]; congr 2
  simp only [IntKind.wrap, IntKind.bits, IntKind.signed, Bool.false_and, Bool.false_eq_true, if_false]
  omega
@[go_sem] theorem wrapU8 {n : Int} (h0 : 0 ≤ n) (h1 : n < 256) : IntKind.wrap .u8 n = n := by
  simp only [IntKind.wrap, IntKind.bits, IntKind.signed, Bool.false_and, Bool.false_eq_true, if_false]; omega
@[go_sem] theorem wrapU64 {n : Int} (h0 : 0 ≤ n) (h1 : n < 18446744073709551616) : IntKind.wrap .u64 n = n := by
  simp only [IntKind.wrap, IntKind.bits, IntKind.signed, Bool.false_and, Bool.false_eq_true, if_false]; omega
@[go_sem] theorem wrapU32 {n : Int} (h0 : 0 ≤ n) (h1 : n < 4294967296) : IntKind.wrap .u32 n = n := by
  simp only [IntKind.wrap, IntKind.bits, IntKind.signed, Bool.false_and, Bool.false_eq_true, if_false]; omega
@[go_sem] theorem sl_one_wrap (n : Int) (cl : Bool) : AV.sl 1 [.v (.int .u8 (IntKind.wrap .u8 n))] cl = .sl 1 ([UInt8.ofInt n].map u8) cl := by simp only [List.map_cons, List.map_nil, u8_ofInt]
@[go_sem] theorem sl_one_lit (n : Int) (h0 : 0 ≤ n) (h1 : n < 256) (cl : Bool) : AV.sl 1 [.v (.int .u8 n)] cl = .sl 1 ([UInt8.ofInt n].map u8) cl := by simp only [List.map_cons, List.map_nil, u8_lit h0 h1]
@[go_sem] theorem sl_one_byte (x : UInt8) (cl : Bool) : AV.sl 1 [.v (.int .u8 x.toNat)] cl = .sl 1 ([x].map u8) cl := rfl
@[go_sem] theorem set_wrap (l : List UInt8) (i : Nat) (n : Int) : (l.map u8).set i (.v (.int .u8 (IntKind.wrap .u8 n))) = (l.set i (UInt8.ofInt n)).map u8 := by rw [← u8_ofInt, List.map_set]
@[go_sem] theorem set_lit (l : List UInt8) (i : Nat) (n : Int) (h0 : 0 ≤ n) (h1 : n < 256) : (l.map u8).set i (.v (.int .u8 n)) = (l.set i (UInt8.ofInt n)).map u8 := by rw [← u8_lit h0 h1, List.map_set]
@[go_sem] theorem app_one_byte (l : List UInt8) (x : UInt8) : l.map u8 ++ [.v (.int .u8 x.toNat)] = (l ++ [x]).map u8 := by simp [u8]
@[go_sem] theorem set_byte (l : List UInt8) (i : Nat) (x : UInt8) : (l.map u8).set i (.v (.int .u8 x.toNat)) = (l.set i x).map u8 := by rw [List.map_set]; rfl

/-! the heap -/
@[go_sem] theorem hget0 {α : Type} (H l : List α) : (H ++ l)[H.length]? = l[0]? := by rw [List.getElem?_append_right (Nat.le_refl _), Nat.sub_self]
@[go_sem] theorem hget {α : Type} (H l : List α) (k : Nat) : (H ++ l)[H.length + k]? = l[k]? := by
  rw [List.getElem?_append_right (by omega)]; congr 1; omega
@[go_sem] theorem hset0 {α : Type} (H l : List α) (b : α) : (H ++ l).set H.length b = H ++ l.set 0 b := by rw [List.set_append, if_neg (by omega)]; simp
@[go_sem] theorem hset {α : Type} (H l : List α) (k : Nat) (b : α) : (H ++ l).set (H.length + k) b = H ++ l.set k b := by
  rw [List.set_append, if_neg (by omega)]; congr 2; omega
attribute [go_sem] List.append_assoc List.length_append List.length_map Int.toNat_natCast put

theorem fits_iff {P : Program} {t : TypeId} {a : AV} : Fits P t a ↔ (tsz P t = some a.wd ∧ tkind P t = some a.tree) ∧ a.stor = true := ⟨fun h => ⟨⟨h.1, h.2⟩, h.3⟩, fun h => ⟨h.1.1, h.1.2, h.2⟩⟩
attribute [go_sem] fits_iff AV.lt AV.ltL Int.natCast_nonneg Int.ofNat_lt

@[go_sem] theorem bne_ne {α : Type} [BEq α] [LawfulBEq α] {x y : α} (h : x ≠ y) : (x != y) = true := by simpa using h
@[go_sem] theorem beq_ne {α : Type} [BEq α] [LawfulBEq α] {x y : α} (h : x ≠ y) : (x == y) = false := by simpa using h
theorem brk.dec {p : Prop} [Decidable p] {a b : Prop} (h1 : p → a) (h2 : ¬p → b) : @brk (decide p) ⟨a⟩ ⟨b⟩ := ⟨fun h => h1 (by simpa using h), fun h => h2 (by simpa using h)⟩
theorem brk.beq {α : Type} [BEq α] [LawfulBEq α] {x y : α} {a b : Prop} (h1 : x = y → a) (h2 : x ≠ y → b) : @brk (x == y) ⟨a⟩ ⟨b⟩ := ⟨fun h => h1 (by simpa using h), fun h => h2 (by simpa using h)⟩
theorem brk.bne {α : Type} [BEq α] [LawfulBEq α] {x y : α} {a b : Prop} (h1 : x ≠ y → a) (h2 : x = y → b) : @brk (x != y) ⟨a⟩ ⟨b⟩ := ⟨fun h => h1 (by simpa using h), fun h => h2 (by simpa using h)⟩
theorem brk.not {t : Bool} {a b : Prop} (h : @brk t ⟨b⟩ ⟨a⟩) : @brk (!t) ⟨a⟩ ⟨b⟩ := by cases t <;> exact ⟨fun q => by first | exact h.1 (by simpa using q) | exact h.2 (by simpa using q), fun q => by first | exact h.1 (by simpa using q) | exact h.2 (by simpa using q)⟩
theorem Wk.eq {a b : AV} (h : a = b) : Wk a b := h ▸ Wk.refl a
theorem Wk.bool {a b : Bool} (h : a = b) : Wk (.v (.bool a)) (.v (.bool b)) := h ▸ Wk.refl _
theorem Wk.int {k : IntKind} {a b : Int} (h : a = b) : Wk (.v (.int k a)) (.v (.int k b)) := h ▸ Wk.refl _
@[go_sem] theorem castLit (n : Nat) : ((no_index (@OfNat.ofNat Nat n (instOfNatNat n)) : Nat) : Int) = @OfNat.ofNat Int n instOfNat := rfl
@[go_sem] theorem strB_mk (l : List UInt8) : strB ⟨l.toArray⟩ = l := rfl
attribute [go_sem] List.length_take List.length_drop List.length_set
@[go_sem] theorem cast0 : ((0 : Nat) : Int) = 0 := rfl
@[go_sem] theorem cast1 : ((1 : Nat) : Int) = 1 := rfl
@[go_sem] theorem wrap64 {n : Int} (h0 : -9223372036854775808 ≤ n) (h1 : n < 9223372036854775808) : IntKind.wrap .i64 n = n := by
  simp only [IntKind.wrap, IntKind.bits, IntKind.signed, Bool.true_and]
  split <;> rename_i h <;> simp only [ge_iff_le, decide_eq_true_eq] at h <;> omega

theorem GivesW.here {H : List Blk} {r r' : AV} (h : Wk r' r) (hl : r.lt H.length) : GivesW H r H (.ret r') := ⟨r', rfl, h, Nat.le_refl _, by simp, hl⟩
theorem GivesW.ext {H X : List Blk} {r r' : AV} (h : Wk r' r) (hl : r.lt H.length) : GivesW H r (H ++ X) (.ret r') := ⟨r', rfl, h, by simp, by simp, hl⟩
/-- a call whose contract is known; what it laid is forgotten -/
theorem Gives.weak {E : Prg} {g : FuncId} {avs : List AV} {H X : List Blk} {r r' : AV} (hc : ACalls E g avs H (Gives (H ++ X) r)) (hw : Wk r r') (hl : r'.lt H.length) : ACalls E g avs H (Gives H r') :=
  ACalls.tidy (Nat.le_refl _) (hc.mono fun H' e h => by obtain ⟨rfl, rfl⟩ := h; exact GivesW.ext hw hl)
end Go.Mc
