/- Abstract values and contracts of calls of the program: a part of the logic in which the claim is proved; it states nothing of the program by itself. -/
import Derived.Test.YtineemehkodlmaaDoorT21
set_option linter.all false
namespace Go.Mc
def u32 (x : UInt32) : AV := .v (.int .u32 x.toNat)
def zeros (n : Nat) : List UInt8 := List.replicate n 0
def zeros32 (n : Nat) : List UInt32 := List.replicate n 0
theorem zeros_length (n : Nat) : (zeros n).length = n := by simp [zeros]
theorem zeros32_length (n : Nat) : (zeros32 n).length = n := by simp [zeros32]
attribute [go_sem] u8 u32 zeros_length zeros32_length
attribute [go_sem] AW ev cst sop lft gdOf putT calleeOf Rets oneOf exitTo binAV intBin intShift isShift strBin lopBin sopConvert sopBuiltin lopLoad lopFieldAddr lopField lopIndexAddr lopIndex lopUn lopConvert lopPick lopNil lopExtract lopLen bnd lopSlice lopMinMax fillN fillU lopBuild srcOf sopAppend sopSlice sopStore AV.fg AV.fgL fgAt sopCopy sopMake sub upd AV.wd AV.stor AV.tree
attribute [go_sem] frOf unr isStop stopAt nilCmp isSl brk_true brk_false AXl dOne dAct setD wF rech frStore Chk
attribute [go_sem] List.size_toArray List.length_cons List.length_nil List.range List.range.loop List.replicate_succ List.replicate_zero List.cons_append List.nil_append List.append_nil List.getElem?_toArray List.getElem?_cons_zero List.getElem?_cons_succ List.getD_cons_zero List.getD_cons_succ List.set_cons_zero List.set_cons_succ List.take_zero List.take_succ_cons List.take_nil List.drop_zero List.drop_succ_cons List.drop_nil List.sum_cons List.sum_nil List.map_cons List.map_nil
attribute [go_sem] true_and and_true and_self forall_const true_implies reduceCtorEq Value.oneCell' ne_eq not_false_eq_true not_true_eq_false Bool.not_true Bool.not_false Bool.true_and Bool.and_true Bool.false_and Bool.and_false Bool.true_or Bool.false_or Bool.or_false Bool.or_true beq_self_eq_true beq_true beq_false Bool.not_not bne_self_eq_false decide_true decide_false
attribute [go_sem] Option.map_none Option.map_some Option.isSome_some Option.isSome_none Option.isNone_none Option.isNone_some Option.bind_some Option.bind_none Option.getD_some Option.getD_none Option.some.injEq Bool.false_eq_true Bool.true_eq_false eq_self if_true if_false ite_true ite_false
attribute [go_sem] Nat.reduceAdd Nat.reduceSub Nat.reduceMul Nat.reduceLT Nat.reduceLeDiff Nat.reduceEqDiff Nat.reduceGT Nat.reduceMod Nat.reduceDiv Nat.reducePow Nat.zero_add Nat.add_zero Nat.zero_mul Nat.mul_zero Nat.mul_one Nat.one_mul Nat.reduceBEq Nat.reduceBNe
attribute [go_sem] Int.reduceToNat Int.reduceLE Int.reduceLT Int.reduceEq Int.reduceNe Int.reduceGE Int.reduceGT Int.reduceAdd Int.reduceSub Int.reduceMul Int.reduceNeg Int.reducePow Int.reduceMod Int.reduceDiv Int.reduceBEq Int.reduceBNe Int.ofNat_eq_natCast
attribute [go_sem] reduceDIte
@[go_sem] theorem KLock_open {F : List Blk → List AV → Prop} {H : List Blk} {a : AV} {ts : List AV} : @KLock H (a :: ts) ⟨F⟩ = F H (a :: ts) := rfl
@[go_sem] theorem ltA (n a b : Nat) : (n + a < n + b) = (a < b) := by simp
@[go_sem] theorem ltB (n b : Nat) : (n < n + b) = (0 < b) := by simp
@[go_sem] theorem ltC (n a : Nat) : (n + a < n) = False := by simp
@[go_sem] theorem ltD (n : Nat) : (n < n) = False := by simp
end Go.Mc
