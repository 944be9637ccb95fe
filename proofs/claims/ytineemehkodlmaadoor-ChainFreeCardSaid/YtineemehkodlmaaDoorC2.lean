/- Laws of bytes, numbers and heaps for the walks. -/
import Derived.Test.YtineemehkodlmaaDoorC1
set_option linter.all false
namespace Go.Mc
theorem wrap_u8 (n : Int) : IntKind.wrap .u8 n = n % 256 := by
  simp only [IntKind.wrap, IntKind.bits, IntKind.signed, Bool.false_and, Bool.false_eq_true, if_false]; rfl
theorem lt_u8 (x : UInt8) : (x.toNat : Int) < 256 := by have := x.toNat_lt; omega
@[go_sem] theorem id_u8 (x : UInt8) : IntKind.wrap .u8 ↑x.toNat = ↑x.toNat := by rw [wrap_u8]; have := lt_u8 x; omega
@[go_sem] theorem add_u8 (x y : UInt8) : IntKind.wrap .u8 (↑x.toNat + ↑y.toNat) = ↑(x + y).toNat := by rw [wrap_u8, UInt8.toNat_add]; omega
@[go_sem] theorem mul_u8 (x y : UInt8) : IntKind.wrap .u8 (↑x.toNat * ↑y.toNat) = ↑(x * y).toNat := by rw [wrap_u8, UInt8.toNat_mul, ← Int.natCast_mul]; omega
@[go_sem] theorem sub_u8 (x y : UInt8) : IntKind.wrap .u8 (↑x.toNat - ↑y.toNat) = ↑(x - y).toNat := by
  rw [wrap_u8, UInt8.toNat_sub]; have h1 := lt_u8 x; have h2 := lt_u8 y; omega
theorem bv_u8 (x : UInt8) : BitVec.ofInt 8 ↑x.toNat = x.toBitVec := by
  apply BitVec.eq_of_toNat_eq; simp
theorem un_u8 (v : BitVec 8) : IntKind.wrap .u8 ↑v.toNat = ↑v.toNat := by rw [wrap_u8]; have := v.isLt; omega
@[go_sem] theorem and_u8 (x y : UInt8) : iand .u8 ↑x.toNat ↑y.toNat = ↑(x &&& y).toNat := by
  unfold iand; show IntKind.wrap .u8 ↑(BitVec.ofInt 8 ↑x.toNat &&& BitVec.ofInt 8 ↑y.toNat).toNat = _
  rw [bv_u8, bv_u8, un_u8]; rfl
@[go_sem] theorem or_u8 (x y : UInt8) : ior .u8 ↑x.toNat ↑y.toNat = ↑(x ||| y).toNat := by
  unfold ior; show IntKind.wrap .u8 ↑(BitVec.ofInt 8 ↑x.toNat ||| BitVec.ofInt 8 ↑y.toNat).toNat = _
  rw [bv_u8, bv_u8, un_u8]; rfl
@[go_sem] theorem xor_u8 (x y : UInt8) : ixor .u8 ↑x.toNat ↑y.toNat = ↑(x ^^^ y).toNat := by
  unfold ixor; show IntKind.wrap .u8 ↑(BitVec.ofInt 8 ↑x.toNat ^^^ BitVec.ofInt 8 ↑y.toNat).toNat = _
  rw [bv_u8, bv_u8, un_u8]; rfl
@[go_sem] theorem not_u8 (x : UInt8) : inot .u8 ↑x.toNat = ↑(~~~x).toNat := by
  unfold inot; show IntKind.wrap .u8 ↑(BitVec.ofInt 8 (256 - 1) ^^^ BitVec.ofInt 8 ↑x.toNat).toNat = _
  rw [bv_u8, un_u8]
  have : BitVec.ofInt 8 (256 - 1) = BitVec.allOnes 8 := by decide
  rw [this, BitVec.allOnes_xor]; rfl
@[go_sem] theorem shl_u8 (x : UInt8) (n : Int) (h0 : 0 ≤ n) (h1 : n < 8) : ishl .u8 ↑x.toNat n = ↑(x <<< UInt8.ofNat n.toNat).toNat := by
  obtain ⟨n, rfl⟩ := Int.eq_ofNat_of_zero_le h0
  have hn : n < 8 := by omega
  unfold ishl; rw [wrap_u8]; show ((x.toNat : Int) * 2 ^ min n 8) % (256 : Int) = _
  rw [Nat.min_eq_left (by omega), UInt8.toNat_shiftLeft]
  simp only [Int.toNat_natCast, UInt8.toNat_ofNat']
  rw [Nat.mod_eq_of_lt (show n < 2 ^ 8 by omega), Nat.mod_eq_of_lt hn, Nat.shiftLeft_eq]
  rw [Int.natCast_emod, Int.natCast_mul, Int.natCast_pow]; rfl
@[go_sem] theorem shr_u8 (x : UInt8) (n : Int) (h0 : 0 ≤ n) (h1 : n < 8) : ishr .u8 ↑x.toNat n = ↑(x >>> UInt8.ofNat n.toNat).toNat := by
  obtain ⟨n, rfl⟩ := Int.eq_ofNat_of_zero_le h0
  have hn : n < 8 := by omega
  unfold ishr; show Int.fdiv ↑x.toNat (2 ^ min n 8) = _
  rw [Nat.min_eq_left (by omega), UInt8.toNat_shiftRight]
  simp only [Int.toNat_natCast, UInt8.toNat_ofNat']
  rw [Nat.mod_eq_of_lt (show n < 2 ^ 8 by omega), Nat.mod_eq_of_lt hn, Nat.shiftRight_eq_div_pow]
  rw [Int.fdiv_eq_ediv_of_nonneg _ (Int.le_of_lt (Int.pow_pos (by decide))), Int.natCast_ediv, Int.natCast_pow]; rfl
theorem wrap_u32 (n : Int) : IntKind.wrap .u32 n = n % 4294967296 := by
  simp only [IntKind.wrap, IntKind.bits, IntKind.signed, Bool.false_and, Bool.false_eq_true, if_false]; rfl
theorem lt_u32 (x : UInt32) : (x.toNat : Int) < 4294967296 := by have := x.toNat_lt; omega
@[go_sem] theorem id_u32 (x : UInt32) : IntKind.wrap .u32 ↑x.toNat = ↑x.toNat := by rw [wrap_u32]; have := lt_u32 x; omega
@[go_sem] theorem add_u32 (x y : UInt32) : IntKind.wrap .u32 (↑x.toNat + ↑y.toNat) = ↑(x + y).toNat := by rw [wrap_u32, UInt32.toNat_add]; omega
@[go_sem] theorem mul_u32 (x y : UInt32) : IntKind.wrap .u32 (↑x.toNat * ↑y.toNat) = ↑(x * y).toNat := by rw [wrap_u32, UInt32.toNat_mul, ← Int.natCast_mul]; omega
@[go_sem] theorem sub_u32 (x y : UInt32) : IntKind.wrap .u32 (↑x.toNat - ↑y.toNat) = ↑(x - y).toNat := by
  rw [wrap_u32, UInt32.toNat_sub]; have h1 := lt_u32 x; have h2 := lt_u32 y; omega
theorem bv_u32 (x : UInt32) : BitVec.ofInt 32 ↑x.toNat = x.toBitVec := by
  apply BitVec.eq_of_toNat_eq; simp
theorem un_u32 (v : BitVec 32) : IntKind.wrap .u32 ↑v.toNat = ↑v.toNat := by rw [wrap_u32]; have := v.isLt; omega
@[go_sem] theorem and_u32 (x y : UInt32) : iand .u32 ↑x.toNat ↑y.toNat = ↑(x &&& y).toNat := by
  unfold iand; show IntKind.wrap .u32 ↑(BitVec.ofInt 32 ↑x.toNat &&& BitVec.ofInt 32 ↑y.toNat).toNat = _
  rw [bv_u32, bv_u32, un_u32]; rfl
@[go_sem] theorem or_u32 (x y : UInt32) : ior .u32 ↑x.toNat ↑y.toNat = ↑(x ||| y).toNat := by
  unfold ior; show IntKind.wrap .u32 ↑(BitVec.ofInt 32 ↑x.toNat ||| BitVec.ofInt 32 ↑y.toNat).toNat = _
  rw [bv_u32, bv_u32, un_u32]; rfl
@[go_sem] theorem xor_u32 (x y : UInt32) : ixor .u32 ↑x.toNat ↑y.toNat = ↑(x ^^^ y).toNat := by
  unfold ixor; show IntKind.wrap .u32 ↑(BitVec.ofInt 32 ↑x.toNat ^^^ BitVec.ofInt 32 ↑y.toNat).toNat = _
  rw [bv_u32, bv_u32, un_u32]; rfl
@[go_sem] theorem not_u32 (x : UInt32) : inot .u32 ↑x.toNat = ↑(~~~x).toNat := by
  unfold inot; show IntKind.wrap .u32 ↑(BitVec.ofInt 32 (4294967296 - 1) ^^^ BitVec.ofInt 32 ↑x.toNat).toNat = _
  rw [bv_u32, un_u32]
  have : BitVec.ofInt 32 (4294967296 - 1) = BitVec.allOnes 32 := by decide
  rw [this, BitVec.allOnes_xor]; rfl
@[go_sem] theorem shl_u32 (x : UInt32) (n : Int) (h0 : 0 ≤ n) (h1 : n < 32) : ishl .u32 ↑x.toNat n = ↑(x <<< UInt32.ofNat n.toNat).toNat := by
  obtain ⟨n, rfl⟩ := Int.eq_ofNat_of_zero_le h0
  have hn : n < 32 := by omega
  unfold ishl; rw [wrap_u32]; show ((x.toNat : Int) * 2 ^ min n 32) % (4294967296 : Int) = _
  rw [Nat.min_eq_left (by omega), UInt32.toNat_shiftLeft]
  simp only [Int.toNat_natCast, UInt32.toNat_ofNat']
  rw [Nat.mod_eq_of_lt (show n < 2 ^ 32 by omega), Nat.mod_eq_of_lt hn, Nat.shiftLeft_eq]
  rw [Int.natCast_emod, Int.natCast_mul, Int.natCast_pow]; rfl
@[go_sem] theorem shr_u32 (x : UInt32) (n : Int) (h0 : 0 ≤ n) (h1 : n < 32) : ishr .u32 ↑x.toNat n = ↑(x >>> UInt32.ofNat n.toNat).toNat := by
  obtain ⟨n, rfl⟩ := Int.eq_ofNat_of_zero_le h0
  have hn : n < 32 := by omega
  unfold ishr; show Int.fdiv ↑x.toNat (2 ^ min n 32) = _
  rw [Nat.min_eq_left (by omega), UInt32.toNat_shiftRight]
  simp only [Int.toNat_natCast, UInt32.toNat_ofNat']
  rw [Nat.mod_eq_of_lt (show n < 2 ^ 32 by omega), Nat.mod_eq_of_lt hn, Nat.shiftRight_eq_div_pow]
  rw [Int.fdiv_eq_ediv_of_nonneg _ (Int.le_of_lt (Int.pow_pos (by decide))), Int.natCast_ediv, Int.natCast_pow]; rfl
theorem wrap_u64 (n : Int) : IntKind.wrap .u64 n = n % 18446744073709551616 := by
  simp only [IntKind.wrap, IntKind.bits, IntKind.signed, Bool.false_and, Bool.false_eq_true, if_false]; rfl
theorem lt_u64 (x : UInt64) : (x.toNat : Int) < 18446744073709551616 := by have := x.toNat_lt; omega
@[go_sem] theorem id_u64 (x : UInt64) : IntKind.wrap .u64 ↑x.toNat = ↑x.toNat := by rw [wrap_u64]; have := lt_u64 x; omega
@[go_sem] theorem add_u64 (x y : UInt64) : IntKind.wrap .u64 (↑x.toNat + ↑y.toNat) = ↑(x + y).toNat := by rw [wrap_u64, UInt64.toNat_add]; omega
@[go_sem] theorem mul_u64 (x y : UInt64) : IntKind.wrap .u64 (↑x.toNat * ↑y.toNat) = ↑(x * y).toNat := by rw [wrap_u64, UInt64.toNat_mul, ← Int.natCast_mul]; omega
@[go_sem] theorem sub_u64 (x y : UInt64) : IntKind.wrap .u64 (↑x.toNat - ↑y.toNat) = ↑(x - y).toNat := by
  rw [wrap_u64, UInt64.toNat_sub]; have h1 := lt_u64 x; have h2 := lt_u64 y; omega
theorem bv_u64 (x : UInt64) : BitVec.ofInt 64 ↑x.toNat = x.toBitVec := by
  apply BitVec.eq_of_toNat_eq; simp
theorem un_u64 (v : BitVec 64) : IntKind.wrap .u64 ↑v.toNat = ↑v.toNat := by rw [wrap_u64]; have := v.isLt; omega
@[go_sem] theorem and_u64 (x y : UInt64) : iand .u64 ↑x.toNat ↑y.toNat = ↑(x &&& y).toNat := by
  unfold iand; show IntKind.wrap .u64 ↑(BitVec.ofInt 64 ↑x.toNat &&& BitVec.ofInt 64 ↑y.toNat).toNat = _
  rw [bv_u64, bv_u64, un_u64]; rfl
@[go_sem] theorem or_u64 (x y : UInt64) : ior .u64 ↑x.toNat ↑y.toNat = ↑(x ||| y).toNat := by
  unfold ior; show IntKind.wrap .u64 ↑(BitVec.ofInt 64 ↑x.toNat ||| BitVec.ofInt 64 ↑y.toNat).toNat = _
  rw [bv_u64, bv_u64, un_u64]; rfl
@[go_sem] theorem xor_u64 (x y : UInt64) : ixor .u64 ↑x.toNat ↑y.toNat = ↑(x ^^^ y).toNat := by
  unfold ixor; show IntKind.wrap .u64 ↑(BitVec.ofInt 64 ↑x.toNat ^^^ BitVec.ofInt 64 ↑y.toNat).toNat = _
  rw [bv_u64, bv_u64, un_u64]; rfl
@[go_sem] theorem not_u64 (x : UInt64) : inot .u64 ↑x.toNat = ↑(~~~x).toNat := by
  unfold inot; show IntKind.wrap .u64 ↑(BitVec.ofInt 64 (18446744073709551616 - 1) ^^^ BitVec.ofInt 64 ↑x.toNat).toNat = _
  rw [bv_u64, un_u64]
  have : BitVec.ofInt 64 (18446744073709551616 - 1) = BitVec.allOnes 64 := by decide
  rw [this, BitVec.allOnes_xor]; rfl
@[go_sem] theorem shl_u64 (x : UInt64) (n : Int) (h0 : 0 ≤ n) (h1 : n < 64) : ishl .u64 ↑x.toNat n = ↑(x <<< UInt64.ofNat n.toNat).toNat := by
  obtain ⟨n, rfl⟩ := Int.eq_ofNat_of_zero_le h0
  have hn : n < 64 := by omega
  unfold ishl; rw [wrap_u64]; show ((x.toNat : Int) * 2 ^ min n 64) % (18446744073709551616 : Int) = _
  rw [Nat.min_eq_left (by omega), UInt64.toNat_shiftLeft]
  simp only [Int.toNat_natCast, UInt64.toNat_ofNat']
  rw [Nat.mod_eq_of_lt (show n < 2 ^ 64 by omega), Nat.mod_eq_of_lt hn, Nat.shiftLeft_eq]
  rw [Int.natCast_emod, Int.natCast_mul, Int.natCast_pow]; rfl
@[go_sem] theorem shr_u64 (x : UInt64) (n : Int) (h0 : 0 ≤ n) (h1 : n < 64) : ishr .u64 ↑x.toNat n = ↑(x >>> UInt64.ofNat n.toNat).toNat := by
  obtain ⟨n, rfl⟩ := Int.eq_ofNat_of_zero_le h0
  have hn : n < 64 := by omega
  unfold ishr; show Int.fdiv ↑x.toNat (2 ^ min n 64) = _
  rw [Nat.min_eq_left (by omega), UInt64.toNat_shiftRight]
  simp only [Int.toNat_natCast, UInt64.toNat_ofNat']
  rw [Nat.mod_eq_of_lt (show n < 2 ^ 64 by omega), Nat.mod_eq_of_lt hn, Nat.shiftRight_eq_div_pow]
  rw [Int.fdiv_eq_ediv_of_nonneg _ (Int.le_of_lt (Int.pow_pos (by decide))), Int.natCast_ediv, Int.natCast_pow]; rfl
@[go_sem] theorem cv_8_32 (x : UInt8) : IntKind.wrap .u32 ↑x.toNat = ↑x.toUInt32.toNat := by rw [wrap_u32]; have := lt_u8 x; simp; omega
@[go_sem] theorem cv_32_8 (x : UInt32) : IntKind.wrap .u8 ↑x.toNat = ↑x.toUInt8.toNat := by rw [wrap_u8]; simp
@[go_sem] theorem cv_64_8 (x : UInt64) : IntKind.wrap .u8 ↑x.toNat = ↑x.toUInt8.toNat := by rw [wrap_u8]; simp
@[go_sem] theorem cv_8_64 (x : UInt8) : IntKind.wrap .u64 ↑x.toNat = ↑x.toUInt64.toNat := by rw [wrap_u64]; have := lt_u8 x; simp; omega
theorem ofInt64 (y : UInt64) : UInt8.ofInt ↑y.toNat = y.toUInt8 := by
  apply UInt8.toNat_inj.1
  rw [UInt8.ofInt, UInt8.toNat_ofNat', UInt64.toNat_toUInt8]; omega
end Go.Mc
