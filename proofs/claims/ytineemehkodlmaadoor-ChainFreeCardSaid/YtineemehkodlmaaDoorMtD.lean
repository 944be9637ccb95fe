/- Facts on the types of the program, each by the kernel. -/
import Derived.Test.YtineemehkodlmaaDoorT22
import Derived.Test.YtineemehkodlmaaDoorProg
import Derived.KernelRfl
set_option linter.all false
set_option maxRecDepth 100000
namespace Go.Mc

def z3 : AV := .v (.int .i64 0)

def z5 : AV := .v (.int .u8 0)

def z9 : AV := .v (.string ByteArray.empty)

def z24 : AV := .arr 1 ((zeros 32).map u8)

def z30 : AV := .node [1, 32, 1, 1, 1] [.v (.bool false), .arr 1 ((zeros 32).map u8), .v (.int .i64 0), .sl 65 [] true, .sl 35 [] true]

def z34 : AV := .node [1, 1, 1, 32] [.v (.int .i64 0), .v (.int .i64 0), .sl 10 [] true, .arr 1 ((zeros 32).map u8)]

def z35 : AV := .v (.int .i64 0)

def z39 : AV := .node [1, 32] [.v (.int .i64 0), .arr 1 ((zeros 32).map u8)]

def z49 : AV := .node [1, 1, 1] [.v (.int .i64 0), .v (.int .i64 0), .sl 10 [] true]

def z54 : AV := .node [1, 1, 1, 1, 1, 1] [.v (.int .i64 0), .v (.int .u64 0), .v (.int .i64 0), .v (.int .i64 0), .v (.string ByteArray.empty), .v (.int .i64 0)]

def z55 : AV := .sl 1 [] true

def z57 : AV := .node [1, 6, 1, 1, 1] [.v (.bool false), .node [1, 1, 1, 1, 1, 1] [.v (.int .i64 0), .v (.int .u64 0), .v (.int .i64 0), .v (.int .i64 0), .v (.string ByteArray.empty), .v (.int .i64 0)], .v (.int .i64 0), .sl 1 [] true, .sl 1 [] true]

def z61 : AV := .node [1, 1] [.v (.int .i64 0), .v (.int .i64 0)]

def z64 : AV := .node [1, 32, 1] [.v (.int .i64 0), .arr 1 ((zeros 32).map u8), .sl 2 [] true]

def z68 : AV := .node [1, 32, 1] [.v (.int .i64 0), .arr 1 ((zeros 32).map u8), .sl 1 [] true]

def z83 : AV := .node [1, 1] [.v (.string ByteArray.empty), .v (.int .i64 0)]

def z86 : AV := .node [1, 1, 32] [.sl 1 [] true, .sl 6 [] true, .arr 1 ((zeros 32).map u8)]

def z91 : AV := .node [1, 1] [.sl 1 [] true, .v (.int .i64 0)]

def z102 : AV := .node [32, 1, 32] [.arr 1 ((zeros 32).map u8), .sl 1 [] true, .arr 1 ((zeros 32).map u8)]

def z105 : AV := .node [32, 1, 1, 1] [.arr 1 ((zeros 32).map u8), .v (.int .i64 0), .sl 1 [] true, .sl 1 [] true]

def z125 : AV := .node [1, 1, 1] [.sl 1 [] true, .v (.int .i64 0), .v (.int .i64 0)]

def z140 : AV := .node [36, 1] [.node [1, 32, 1, 1, 1] [.v (.bool false), .arr 1 ((zeros 32).map u8), .v (.int .i64 0), .sl 65 [] true, .sl 35 [] true], .v (.int .i64 0)]

def z156 : AV := .node [] []

def z162 : AV := .arr 1 (List.replicate 8 (.v (.int .i64 0)))

def z169 : AV := .arr 1 (List.replicate 2 (.sl 1 [] true))

def z178 : AV := .arr 1 ((zeros32 8).map u32)

def z185 : AV := .node [8, 1, 1] [.arr 1 ((zeros32 8).map u32), .sl 1 [] true, .v (.int .i64 0)]

def z191 : AV := .arr 1 ((zeros32 64).map u32)

def zvT : TypeId → Option AV
  | 3 => some z3
  | 5 => some z5
  | 9 => some z9
  | 24 => some z24
  | 30 => some z30
  | 34 => some z34
  | 35 => some z35
  | 39 => some z39
  | 49 => some z49
  | 54 => some z54
  | 55 => some z55
  | 57 => some z57
  | 61 => some z61
  | 64 => some z64
  | 68 => some z68
  | 83 => some z83
  | 86 => some z86
  | 91 => some z91
  | 102 => some z102
  | 105 => some z105
  | 125 => some z125
  | 140 => some z140
  | 156 => some z156
  | 162 => some z162
  | 169 => some z169
  | 178 => some z178
  | 185 => some z185
  | 191 => some z191
  | _ => none

theorem zok3 : ZOk Proofs.Tryd.prog 3 z3 := ⟨⟨by kernel_rfl, by kernel_rfl, rfl⟩, by simp [z3, AV.lt, AV.ltL, AV.ltL_iff, u8, u32], zlit (by kernel_rfl) (by kernel_rfl), trivial⟩

theorem zok5 : ZOk Proofs.Tryd.prog 5 z5 := ⟨⟨by kernel_rfl, by kernel_rfl, rfl⟩, by simp [z5, AV.lt, AV.ltL, AV.ltL_iff, u8, u32], zlit (by kernel_rfl) (by kernel_rfl), trivial⟩

theorem zok9 : ZOk Proofs.Tryd.prog 9 z9 := ⟨⟨by kernel_rfl, by kernel_rfl, rfl⟩, by simp [z9, AV.lt, AV.ltL, AV.ltL_iff, u8, u32], zlit (by kernel_rfl) (by kernel_rfl), trivial⟩

theorem zok24 : ZOk Proofs.Tryd.prog 24 z24 := ⟨⟨by kernel_rfl, by kernel_rfl, rfl⟩, by simp [z24, AV.lt, AV.ltL, AV.ltL_iff, u8, u32], zlit (by kernel_rfl) (by kernel_rfl), ⟨_, Proofs.Tryd.underlying24, by kernel_rfl⟩⟩

theorem zok30 : ZOk Proofs.Tryd.prog 30 z30 := ⟨⟨by kernel_rfl, by kernel_rfl, rfl⟩, by simp [z30, AV.lt, AV.ltL, AV.ltL_iff, u8, u32], zlit (by kernel_rfl) (by kernel_rfl), ⟨_, Proofs.Tryd.underlying30, by kernel_rfl⟩⟩

theorem zok34 : ZOk Proofs.Tryd.prog 34 z34 := ⟨⟨by kernel_rfl, by kernel_rfl, rfl⟩, by simp [z34, AV.lt, AV.ltL, AV.ltL_iff, u8, u32], zlit (by kernel_rfl) (by kernel_rfl), ⟨_, Proofs.Tryd.underlying34, by kernel_rfl⟩⟩

theorem zok35 : ZOk Proofs.Tryd.prog 35 z35 := ⟨⟨by kernel_rfl, by kernel_rfl, rfl⟩, by simp [z35, AV.lt, AV.ltL, AV.ltL_iff, u8, u32], zlit (by kernel_rfl) (by kernel_rfl), trivial⟩

theorem zok39 : ZOk Proofs.Tryd.prog 39 z39 := ⟨⟨by kernel_rfl, by kernel_rfl, rfl⟩, by simp [z39, AV.lt, AV.ltL, AV.ltL_iff, u8, u32], zlit (by kernel_rfl) (by kernel_rfl), ⟨_, Proofs.Tryd.underlying39, by kernel_rfl⟩⟩

theorem zok49 : ZOk Proofs.Tryd.prog 49 z49 := ⟨⟨by kernel_rfl, by kernel_rfl, rfl⟩, by simp [z49, AV.lt, AV.ltL, AV.ltL_iff, u8, u32], zlit (by kernel_rfl) (by kernel_rfl), ⟨_, Proofs.Tryd.underlying49, by kernel_rfl⟩⟩

theorem zok54 : ZOk Proofs.Tryd.prog 54 z54 := ⟨⟨by kernel_rfl, by kernel_rfl, rfl⟩, by simp [z54, AV.lt, AV.ltL, AV.ltL_iff, u8, u32], zlit (by kernel_rfl) (by kernel_rfl), ⟨_, Proofs.Tryd.underlying54, by kernel_rfl⟩⟩

theorem zok55 : ZOk Proofs.Tryd.prog 55 z55 := ⟨⟨by kernel_rfl, by kernel_rfl, rfl⟩, by simp [z55, AV.lt, AV.ltL, AV.ltL_iff, u8, u32], zlit (by kernel_rfl) (by kernel_rfl), trivial⟩

theorem zok57 : ZOk Proofs.Tryd.prog 57 z57 := ⟨⟨by kernel_rfl, by kernel_rfl, rfl⟩, by simp [z57, AV.lt, AV.ltL, AV.ltL_iff, u8, u32], zlit (by kernel_rfl) (by kernel_rfl), ⟨_, Proofs.Tryd.underlying57, by kernel_rfl⟩⟩

theorem zok61 : ZOk Proofs.Tryd.prog 61 z61 := ⟨⟨by kernel_rfl, by kernel_rfl, rfl⟩, by simp [z61, AV.lt, AV.ltL, AV.ltL_iff, u8, u32], zlit (by kernel_rfl) (by kernel_rfl), ⟨_, Proofs.Tryd.underlying61, by kernel_rfl⟩⟩

theorem zok64 : ZOk Proofs.Tryd.prog 64 z64 := ⟨⟨by kernel_rfl, by kernel_rfl, rfl⟩, by simp [z64, AV.lt, AV.ltL, AV.ltL_iff, u8, u32], zlit (by kernel_rfl) (by kernel_rfl), ⟨_, Proofs.Tryd.underlying64, by kernel_rfl⟩⟩

theorem zok68 : ZOk Proofs.Tryd.prog 68 z68 := ⟨⟨by kernel_rfl, by kernel_rfl, rfl⟩, by simp [z68, AV.lt, AV.ltL, AV.ltL_iff, u8, u32], zlit (by kernel_rfl) (by kernel_rfl), ⟨_, Proofs.Tryd.underlying68, by kernel_rfl⟩⟩

theorem zok83 : ZOk Proofs.Tryd.prog 83 z83 := ⟨⟨by kernel_rfl, by kernel_rfl, rfl⟩, by simp [z83, AV.lt, AV.ltL, AV.ltL_iff, u8, u32], zlit (by kernel_rfl) (by kernel_rfl), ⟨_, Proofs.Tryd.underlying83, by kernel_rfl⟩⟩

theorem zok86 : ZOk Proofs.Tryd.prog 86 z86 := ⟨⟨by kernel_rfl, by kernel_rfl, rfl⟩, by simp [z86, AV.lt, AV.ltL, AV.ltL_iff, u8, u32], zlit (by kernel_rfl) (by kernel_rfl), ⟨_, Proofs.Tryd.underlying86, by kernel_rfl⟩⟩

theorem zok91 : ZOk Proofs.Tryd.prog 91 z91 := ⟨⟨by kernel_rfl, by kernel_rfl, rfl⟩, by simp [z91, AV.lt, AV.ltL, AV.ltL_iff, u8, u32], zlit (by kernel_rfl) (by kernel_rfl), ⟨_, Proofs.Tryd.underlying91, by kernel_rfl⟩⟩

theorem zok102 : ZOk Proofs.Tryd.prog 102 z102 := ⟨⟨by kernel_rfl, by kernel_rfl, rfl⟩, by simp [z102, AV.lt, AV.ltL, AV.ltL_iff, u8, u32], zlit (by kernel_rfl) (by kernel_rfl), ⟨_, Proofs.Tryd.underlying102, by kernel_rfl⟩⟩

theorem zok105 : ZOk Proofs.Tryd.prog 105 z105 := ⟨⟨by kernel_rfl, by kernel_rfl, rfl⟩, by simp [z105, AV.lt, AV.ltL, AV.ltL_iff, u8, u32], zlit (by kernel_rfl) (by kernel_rfl), ⟨_, Proofs.Tryd.underlying105, by kernel_rfl⟩⟩

theorem zok125 : ZOk Proofs.Tryd.prog 125 z125 := ⟨⟨by kernel_rfl, by kernel_rfl, rfl⟩, by simp [z125, AV.lt, AV.ltL, AV.ltL_iff, u8, u32], zlit (by kernel_rfl) (by kernel_rfl), ⟨_, Proofs.Tryd.underlying125, by kernel_rfl⟩⟩

theorem zok140 : ZOk Proofs.Tryd.prog 140 z140 := ⟨⟨by kernel_rfl, by kernel_rfl, rfl⟩, by simp [z140, AV.lt, AV.ltL, AV.ltL_iff, u8, u32], zlit (by kernel_rfl) (by kernel_rfl), ⟨_, Proofs.Tryd.underlying140, by kernel_rfl⟩⟩

theorem zok156 : ZOk Proofs.Tryd.prog 156 z156 := ⟨⟨by kernel_rfl, by kernel_rfl, rfl⟩, by simp [z156, AV.lt, AV.ltL, AV.ltL_iff, u8, u32], zlit (by kernel_rfl) (by kernel_rfl), ⟨_, Proofs.Tryd.underlying156, by kernel_rfl⟩⟩

theorem zok162 : ZOk Proofs.Tryd.prog 162 z162 := ⟨⟨by kernel_rfl, by kernel_rfl, rfl⟩, by simp [z162, AV.lt, AV.ltL, AV.ltL_iff, u8, u32], zlit (by kernel_rfl) (by kernel_rfl), ⟨_, Proofs.Tryd.underlying162, by kernel_rfl⟩⟩

theorem zok169 : ZOk Proofs.Tryd.prog 169 z169 := ⟨⟨by kernel_rfl, by kernel_rfl, rfl⟩, by simp [z169, AV.lt, AV.ltL, AV.ltL_iff, u8, u32], zlit (by kernel_rfl) (by kernel_rfl), ⟨_, Proofs.Tryd.underlying169, by kernel_rfl⟩⟩

theorem zok178 : ZOk Proofs.Tryd.prog 178 z178 := ⟨⟨by kernel_rfl, by kernel_rfl, rfl⟩, by simp [z178, AV.lt, AV.ltL, AV.ltL_iff, u8, u32], zlit (by kernel_rfl) (by kernel_rfl), ⟨_, Proofs.Tryd.underlying178, by kernel_rfl⟩⟩

theorem zok185 : ZOk Proofs.Tryd.prog 185 z185 := ⟨⟨by kernel_rfl, by kernel_rfl, rfl⟩, by simp [z185, AV.lt, AV.ltL, AV.ltL_iff, u8, u32], zlit (by kernel_rfl) (by kernel_rfl), ⟨_, Proofs.Tryd.underlying185, by kernel_rfl⟩⟩

theorem zok191 : ZOk Proofs.Tryd.prog 191 z191 := ⟨⟨by kernel_rfl, by kernel_rfl, rfl⟩, by simp [z191, AV.lt, AV.ltL, AV.ltL_iff, u8, u32], zlit (by kernel_rfl) (by kernel_rfl), ⟨_, Proofs.Tryd.underlying191, by kernel_rfl⟩⟩

theorem zokT : ∀ t a, zvT t = some a → ZOk Proofs.Tryd.prog t a := by
  intro t a h
  unfold zvT at h
  split at h <;> first | (simp at h; done) | (cases h; first | exact zok3 | exact zok5 | exact zok9 | exact zok24 | exact zok30 | exact zok34 | exact zok35 | exact zok39 | exact zok49 | exact zok54 | exact zok55 | exact zok57 | exact zok61 | exact zok64 | exact zok68 | exact zok83 | exact zok86 | exact zok91 | exact zok102 | exact zok105 | exact zok125 | exact zok140 | exact zok156 | exact zok162 | exact zok169 | exact zok178 | exact zok185 | exact zok191)

/-- the constants of the hash function -/
def kTab : List UInt32 := [1116352408, 1899447441, 3049323471, 3921009573, 961987163, 1508970993, 2453635748, 2870763221, 3624381080, 310598401, 607225278, 1426881987, 1925078388, 2162078206, 2614888103, 3248222580, 3835390401, 4022224774, 264347078, 604807628, 770255983, 1249150122, 1555081692, 1996064986, 2554220882, 2821834349, 2952996808, 3210313671, 3336571891, 3584528711, 113926993, 338241895, 666307205, 773529912, 1294757372, 1396182291, 1695183700, 1986661051, 2177026350, 2456956037, 2730485921, 2820302411, 3259730800, 3345764771, 3516065817, 3600352804, 4094571909, 275423344, 430227734, 506948616, 659060556, 883997877, 958139571, 1322822218, 1537002063, 1747873779, 1955562222, 2024104815, 2227730452, 2361852424, 2428436474, 2756734187, 3204031479, 3329325298]
/-- the numbers of bits of the masks -/
def bTab : List Int := [0, 64, 32, 7, 0, 0, 0, 0]

def glT : Nat → Option AV
  | 0 => some (.arr 1 (bTab.map fun n => .v (.int .i64 n)))
  | 1 => some (.arr 1 (kTab.map u32))
  | _ => none

noncomputable def E : Prg := { P := Proofs.Tryd.prog, gl := glT, zv := zvT, zok := zokT }

@[go_sem] theorem gl_b : E.gl 0 = some (.arr 1 (bTab.map fun n => .v (.int .i64 n))) := rfl
@[go_sem] theorem gl_k : E.gl 1 = some (.arr 1 (kTab.map u32)) := rfl

@[go_sem] theorem zv3 : E.zv 3 = some (.v (.int .i64 0)) := rfl

@[go_sem] theorem zv5 : E.zv 5 = some (.v (.int .u8 0)) := rfl

@[go_sem] theorem zv9 : E.zv 9 = some (.v (.string ByteArray.empty)) := rfl

@[go_sem] theorem zv24 : E.zv 24 = some (.arr 1 ((zeros 32).map u8)) := rfl

@[go_sem] theorem zv30 : E.zv 30 = some (.node [1, 32, 1, 1, 1] [.v (.bool false), .arr 1 ((zeros 32).map u8), .v (.int .i64 0), .sl 65 [] true, .sl 35 [] true]) := rfl

@[go_sem] theorem zv34 : E.zv 34 = some (.node [1, 1, 1, 32] [.v (.int .i64 0), .v (.int .i64 0), .sl 10 [] true, .arr 1 ((zeros 32).map u8)]) := rfl

@[go_sem] theorem zv35 : E.zv 35 = some (.v (.int .i64 0)) := rfl

@[go_sem] theorem zv39 : E.zv 39 = some (.node [1, 32] [.v (.int .i64 0), .arr 1 ((zeros 32).map u8)]) := rfl

@[go_sem] theorem zv49 : E.zv 49 = some (.node [1, 1, 1] [.v (.int .i64 0), .v (.int .i64 0), .sl 10 [] true]) := rfl

@[go_sem] theorem zv54 : E.zv 54 = some (.node [1, 1, 1, 1, 1, 1] [.v (.int .i64 0), .v (.int .u64 0), .v (.int .i64 0), .v (.int .i64 0), .v (.string ByteArray.empty), .v (.int .i64 0)]) := rfl

@[go_sem] theorem zv55 : E.zv 55 = some (.sl 1 [] true) := rfl

@[go_sem] theorem zv57 : E.zv 57 = some (.node [1, 6, 1, 1, 1] [.v (.bool false), .node [1, 1, 1, 1, 1, 1] [.v (.int .i64 0), .v (.int .u64 0), .v (.int .i64 0), .v (.int .i64 0), .v (.string ByteArray.empty), .v (.int .i64 0)], .v (.int .i64 0), .sl 1 [] true, .sl 1 [] true]) := rfl

@[go_sem] theorem zv61 : E.zv 61 = some (.node [1, 1] [.v (.int .i64 0), .v (.int .i64 0)]) := rfl

@[go_sem] theorem zv64 : E.zv 64 = some (.node [1, 32, 1] [.v (.int .i64 0), .arr 1 ((zeros 32).map u8), .sl 2 [] true]) := rfl

@[go_sem] theorem zv68 : E.zv 68 = some (.node [1, 32, 1] [.v (.int .i64 0), .arr 1 ((zeros 32).map u8), .sl 1 [] true]) := rfl

@[go_sem] theorem zv83 : E.zv 83 = some (.node [1, 1] [.v (.string ByteArray.empty), .v (.int .i64 0)]) := rfl

@[go_sem] theorem zv86 : E.zv 86 = some (.node [1, 1, 32] [.sl 1 [] true, .sl 6 [] true, .arr 1 ((zeros 32).map u8)]) := rfl

@[go_sem] theorem zv91 : E.zv 91 = some (.node [1, 1] [.sl 1 [] true, .v (.int .i64 0)]) := rfl

@[go_sem] theorem zv102 : E.zv 102 = some (.node [32, 1, 32] [.arr 1 ((zeros 32).map u8), .sl 1 [] true, .arr 1 ((zeros 32).map u8)]) := rfl

@[go_sem] theorem zv105 : E.zv 105 = some (.node [32, 1, 1, 1] [.arr 1 ((zeros 32).map u8), .v (.int .i64 0), .sl 1 [] true, .sl 1 [] true]) := rfl

@[go_sem] theorem zv125 : E.zv 125 = some (.node [1, 1, 1] [.sl 1 [] true, .v (.int .i64 0), .v (.int .i64 0)]) := rfl

@[go_sem] theorem zv140 : E.zv 140 = some (.node [36, 1] [.node [1, 32, 1, 1, 1] [.v (.bool false), .arr 1 ((zeros 32).map u8), .v (.int .i64 0), .sl 65 [] true, .sl 35 [] true], .v (.int .i64 0)]) := rfl

@[go_sem] theorem zv156 : E.zv 156 = some (.node [] []) := rfl

@[go_sem] theorem zv162 : E.zv 162 = some (.arr 1 (List.replicate 8 (.v (.int .i64 0)))) := rfl

@[go_sem] theorem zv169 : E.zv 169 = some (.arr 1 (List.replicate 2 (.sl 1 [] true))) := rfl

@[go_sem] theorem zv178 : E.zv 178 = some (.arr 1 ((zeros32 8).map u32)) := rfl

@[go_sem] theorem zv185 : E.zv 185 = some (.node [8, 1, 1] [.arr 1 ((zeros32 8).map u32), .sl 1 [] true, .v (.int .i64 0)]) := rfl

@[go_sem] theorem zv191 : E.zv 191 = some (.arr 1 ((zeros32 64).map u32)) := rfl

@[go_sem] theorem tsz3 : tsz E.P 3 = some 1 := by kernel_rfl

@[go_sem] theorem tkind3 : tkind E.P 3 = some false := by kernel_rfl

@[go_sem] theorem tby3 : tby E.P 3 = some 8 := by kernel_rfl

@[go_sem] theorem tz3 : ZSz E.P 3 1 = True := eq_true (zszlit (a := .v (.int .i64 0)) (by kernel_rfl) (by kernel_rfl))

@[go_sem] theorem intk3 : intk E.P 3 = some .i64 := by kernel_rfl

@[go_sem] theorem und3 : (E.P.underlying 3 ≠ none) = True := eq_true (by rw [show E.P.underlying 3 = _ from Proofs.Tryd.underlying3]; simp)

@[go_sem] theorem tsz4 : tsz E.P 4 = some 1 := by kernel_rfl

@[go_sem] theorem tkind4 : tkind E.P 4 = some false := by kernel_rfl

@[go_sem] theorem tby4 : tby E.P 4 = some 1 := by kernel_rfl

@[go_sem] theorem tz4 : ZSz E.P 4 1 = True := eq_true (zszlit (a := .v (.bool false)) (by kernel_rfl) (by kernel_rfl))

@[go_sem] theorem und4 : (E.P.underlying 4 ≠ none) = True := eq_true (by rw [show E.P.underlying 4 = _ from Proofs.Tryd.underlying4]; simp)

@[go_sem] theorem tsz5 : tsz E.P 5 = some 1 := by kernel_rfl

@[go_sem] theorem tkind5 : tkind E.P 5 = some false := by kernel_rfl

@[go_sem] theorem tby5 : tby E.P 5 = some 1 := by kernel_rfl

@[go_sem] theorem tz5 : ZSz E.P 5 1 = True := eq_true (zszlit (a := .v (.int .u8 0)) (by kernel_rfl) (by kernel_rfl))

@[go_sem] theorem intk5 : intk E.P 5 = some .u8 := by kernel_rfl

@[go_sem] theorem und5 : (E.P.underlying 5 ≠ none) = True := eq_true (by rw [show E.P.underlying 5 = _ from Proofs.Tryd.underlying5]; simp)

@[go_sem] theorem und8_5 : (E.P.underlying 5 = some (.int .u8)) = True := eq_true Proofs.Tryd.underlying5

@[go_sem] theorem tsz9 : tsz E.P 9 = some 1 := by kernel_rfl

@[go_sem] theorem tkind9 : tkind E.P 9 = some false := by kernel_rfl

@[go_sem] theorem tby9 : tby E.P 9 = some 16 := by kernel_rfl

@[go_sem] theorem tz9 : ZSz E.P 9 1 = True := eq_true (zszlit (a := .v (.string ByteArray.empty)) (by kernel_rfl) (by kernel_rfl))

@[go_sem] theorem ixk9 : ixk E.P 9 = some .str := by kernel_rfl
@[go_sem] theorem noInt9 : noInt E.P 9 = True := eq_true ⟨_, Proofs.Tryd.underlying9, fun _ h => by cases h⟩

@[go_sem] theorem und9 : (E.P.underlying 9 ≠ none) = True := eq_true (by rw [show E.P.underlying 9 = _ from Proofs.Tryd.underlying9]; simp)

@[go_sem] theorem tsz20 : tsz E.P 20 = some 1 := by kernel_rfl

@[go_sem] theorem tkind20 : tkind E.P 20 = some false := by kernel_rfl

@[go_sem] theorem tsz22 : tsz E.P 22 = some 1 := by kernel_rfl

@[go_sem] theorem tkind22 : tkind E.P 22 = some false := by kernel_rfl

@[go_sem] theorem tby22 : tby E.P 22 = some 24 := by kernel_rfl

@[go_sem] theorem tz22 : ZSz E.P 22 1 = True := eq_true (zszlit (a := .sl 1 [] true) (by kernel_rfl) (by kernel_rfl))

@[go_sem] theorem ixk22 : ixk E.P 22 = some (.slice 3 1) := by kernel_rfl
@[go_sem] theorem noInt22 : noInt E.P 22 = True := eq_true ⟨_, Proofs.Tryd.underlying22, fun _ h => by cases h⟩

@[go_sem] theorem und22 : (E.P.underlying 22 ≠ none) = True := eq_true (by rw [show E.P.underlying 22 = _ from Proofs.Tryd.underlying22]; simp)

@[go_sem] theorem tsz24 : tsz E.P 24 = some 32 := by kernel_rfl

@[go_sem] theorem tkind24 : tkind E.P 24 = some true := by kernel_rfl

@[go_sem] theorem tby24 : tby E.P 24 = some 32 := by kernel_rfl

@[go_sem] theorem tz24 : ZSz E.P 24 32 = True := eq_true (zszlit (a := .arr 1 ((zeros 32).map u8)) (by kernel_rfl) (by kernel_rfl))

@[go_sem] theorem ixk24 : ixk E.P 24 = some (.array 32 5 1) := by kernel_rfl

@[go_sem] theorem tsz27 : tsz E.P 27 = some 1 := by kernel_rfl

@[go_sem] theorem tkind27 : tkind E.P 27 = some false := by kernel_rfl

@[go_sem] theorem tby27 : tby E.P 27 = some 24 := by kernel_rfl

@[go_sem] theorem tz27 : ZSz E.P 27 1 = True := eq_true (zszlit (a := .sl 65 [] true) (by kernel_rfl) (by kernel_rfl))

@[go_sem] theorem ixk27 : ixk E.P 27 = some (.slice 102 65) := by kernel_rfl
@[go_sem] theorem noInt27 : noInt E.P 27 = True := eq_true ⟨_, Proofs.Tryd.underlying27, fun _ h => by cases h⟩

@[go_sem] theorem und27 : (E.P.underlying 27 ≠ none) = True := eq_true (by rw [show E.P.underlying 27 = _ from Proofs.Tryd.underlying27]; simp)

@[go_sem] theorem tsz28 : tsz E.P 28 = some 1 := by kernel_rfl

@[go_sem] theorem tkind28 : tkind E.P 28 = some false := by kernel_rfl

@[go_sem] theorem tby28 : tby E.P 28 = some 24 := by kernel_rfl

@[go_sem] theorem tz28 : ZSz E.P 28 1 = True := eq_true (zszlit (a := .sl 35 [] true) (by kernel_rfl) (by kernel_rfl))

@[go_sem] theorem ixk28 : ixk E.P 28 = some (.slice 105 35) := by kernel_rfl
@[go_sem] theorem noInt28 : noInt E.P 28 = True := eq_true ⟨_, Proofs.Tryd.underlying28, fun _ h => by cases h⟩

@[go_sem] theorem und28 : (E.P.underlying 28 ≠ none) = True := eq_true (by rw [show E.P.underlying 28 = _ from Proofs.Tryd.underlying28]; simp)

@[go_sem] theorem tsz30 : tsz E.P 30 = some 36 := by kernel_rfl

@[go_sem] theorem tkind30 : tkind E.P 30 = some true := by kernel_rfl

@[go_sem] theorem tby30 : tby E.P 30 = some 96 := by kernel_rfl

@[go_sem] theorem tz30 : ZSz E.P 30 36 = True := eq_true (zszlit (a := .node [1, 32, 1, 1, 1] [.v (.bool false), .arr 1 ((zeros 32).map u8), .v (.int .i64 0), .sl 65 [] true, .sl 35 [] true]) (by kernel_rfl) (by kernel_rfl))

@[go_sem] theorem fld30_0 : fld E.P 30 0 = some (4, 0, 1) := by kernel_rfl

@[go_sem] theorem fld30_1 : fld E.P 30 1 = some (24, 1, 32) := by kernel_rfl

@[go_sem] theorem fld30_2 : fld E.P 30 2 = some (3, 33, 1) := by kernel_rfl

@[go_sem] theorem fld30_3 : fld E.P 30 3 = some (27, 34, 1) := by kernel_rfl

@[go_sem] theorem fld30_4 : fld E.P 30 4 = some (28, 35, 1) := by kernel_rfl

@[go_sem] theorem tsz32 : tsz E.P 32 = some 1 := by kernel_rfl

@[go_sem] theorem tkind32 : tkind E.P 32 = some false := by kernel_rfl

@[go_sem] theorem tby32 : tby E.P 32 = some 24 := by kernel_rfl

@[go_sem] theorem tz32 : ZSz E.P 32 1 = True := eq_true (zszlit (a := .sl 10 [] true) (by kernel_rfl) (by kernel_rfl))

@[go_sem] theorem ixk32 : ixk E.P 32 = some (.slice 57 10) := by kernel_rfl
@[go_sem] theorem noInt32 : noInt E.P 32 = True := eq_true ⟨_, Proofs.Tryd.underlying32, fun _ h => by cases h⟩

@[go_sem] theorem und32 : (E.P.underlying 32 ≠ none) = True := eq_true (by rw [show E.P.underlying 32 = _ from Proofs.Tryd.underlying32]; simp)

@[go_sem] theorem tsz34 : tsz E.P 34 = some 35 := by kernel_rfl

@[go_sem] theorem tkind34 : tkind E.P 34 = some true := by kernel_rfl

@[go_sem] theorem fld34_0 : fld E.P 34 0 = some (3, 0, 1) := by kernel_rfl

@[go_sem] theorem fld34_1 : fld E.P 34 1 = some (3, 1, 1) := by kernel_rfl

@[go_sem] theorem fld34_2 : fld E.P 34 2 = some (32, 2, 1) := by kernel_rfl

@[go_sem] theorem fld34_3 : fld E.P 34 3 = some (24, 3, 32) := by kernel_rfl

@[go_sem] theorem tsz35 : tsz E.P 35 = some 1 := by kernel_rfl

@[go_sem] theorem tkind35 : tkind E.P 35 = some false := by kernel_rfl

@[go_sem] theorem tby35 : tby E.P 35 = some 8 := by kernel_rfl

@[go_sem] theorem tz35 : ZSz E.P 35 1 = True := eq_true (zszlit (a := .v (.int .i64 0)) (by kernel_rfl) (by kernel_rfl))

@[go_sem] theorem intk35 : intk E.P 35 = some .i64 := by kernel_rfl

@[go_sem] theorem und35 : (E.P.underlying 35 ≠ none) = True := eq_true (by rw [show E.P.underlying 35 = _ from Proofs.Tryd.underlying35]; simp)

@[go_sem] theorem tsz39 : tsz E.P 39 = some 33 := by kernel_rfl

@[go_sem] theorem tkind39 : tkind E.P 39 = some true := by kernel_rfl

@[go_sem] theorem fld39_0 : fld E.P 39 0 = some (3, 0, 1) := by kernel_rfl

@[go_sem] theorem fld39_1 : fld E.P 39 1 = some (24, 1, 32) := by kernel_rfl

@[go_sem] theorem tsz49 : tsz E.P 49 = some 3 := by kernel_rfl

@[go_sem] theorem tkind49 : tkind E.P 49 = some true := by kernel_rfl

@[go_sem] theorem fld49_0 : fld E.P 49 0 = some (3, 0, 1) := by kernel_rfl

@[go_sem] theorem fld49_1 : fld E.P 49 1 = some (3, 1, 1) := by kernel_rfl

@[go_sem] theorem fld49_2 : fld E.P 49 2 = some (32, 2, 1) := by kernel_rfl

@[go_sem] theorem tsz52 : tsz E.P 52 = some 1 := by kernel_rfl

@[go_sem] theorem tkind52 : tkind E.P 52 = some false := by kernel_rfl

@[go_sem] theorem tby52 : tby E.P 52 = some 8 := by kernel_rfl

@[go_sem] theorem tz52 : ZSz E.P 52 1 = True := eq_true (zszlit (a := .v (.int .u64 0)) (by kernel_rfl) (by kernel_rfl))

@[go_sem] theorem intk52 : intk E.P 52 = some .u64 := by kernel_rfl

@[go_sem] theorem und52 : (E.P.underlying 52 ≠ none) = True := eq_true (by rw [show E.P.underlying 52 = _ from Proofs.Tryd.underlying52]; simp)

@[go_sem] theorem tsz54 : tsz E.P 54 = some 6 := by kernel_rfl

@[go_sem] theorem tkind54 : tkind E.P 54 = some true := by kernel_rfl

@[go_sem] theorem tby54 : tby E.P 54 = some 56 := by kernel_rfl

@[go_sem] theorem tz54 : ZSz E.P 54 6 = True := eq_true (zszlit (a := .node [1, 1, 1, 1, 1, 1] [.v (.int .i64 0), .v (.int .u64 0), .v (.int .i64 0), .v (.int .i64 0), .v (.string ByteArray.empty), .v (.int .i64 0)]) (by kernel_rfl) (by kernel_rfl))

@[go_sem] theorem fld54_0 : fld E.P 54 0 = some (3, 0, 1) := by kernel_rfl

@[go_sem] theorem fld54_1 : fld E.P 54 1 = some (52, 1, 1) := by kernel_rfl

@[go_sem] theorem fld54_2 : fld E.P 54 2 = some (3, 2, 1) := by kernel_rfl

@[go_sem] theorem fld54_3 : fld E.P 54 3 = some (3, 3, 1) := by kernel_rfl

@[go_sem] theorem fld54_4 : fld E.P 54 4 = some (9, 4, 1) := by kernel_rfl

@[go_sem] theorem fld54_5 : fld E.P 54 5 = some (3, 5, 1) := by kernel_rfl

@[go_sem] theorem tsz55 : tsz E.P 55 = some 1 := by kernel_rfl

@[go_sem] theorem tkind55 : tkind E.P 55 = some false := by kernel_rfl

@[go_sem] theorem tby55 : tby E.P 55 = some 24 := by kernel_rfl

@[go_sem] theorem tz55 : ZSz E.P 55 1 = True := eq_true (zszlit (a := .sl 1 [] true) (by kernel_rfl) (by kernel_rfl))

@[go_sem] theorem ixk55 : ixk E.P 55 = some (.slice 5 1) := by kernel_rfl
@[go_sem] theorem noInt55 : noInt E.P 55 = True := eq_true ⟨_, Proofs.Tryd.underlying55, fun _ h => by cases h⟩

@[go_sem] theorem und55 : (E.P.underlying 55 ≠ none) = True := eq_true (by rw [show E.P.underlying 55 = _ from Proofs.Tryd.underlying55]; simp)

@[go_sem] theorem tsz57 : tsz E.P 57 = some 10 := by kernel_rfl

@[go_sem] theorem tkind57 : tkind E.P 57 = some true := by kernel_rfl

@[go_sem] theorem tby57 : tby E.P 57 = some 120 := by kernel_rfl

@[go_sem] theorem tz57 : ZSz E.P 57 10 = True := eq_true (zszlit (a := .node [1, 6, 1, 1, 1] [.v (.bool false), .node [1, 1, 1, 1, 1, 1] [.v (.int .i64 0), .v (.int .u64 0), .v (.int .i64 0), .v (.int .i64 0), .v (.string ByteArray.empty), .v (.int .i64 0)], .v (.int .i64 0), .sl 1 [] true, .sl 1 [] true]) (by kernel_rfl) (by kernel_rfl))

@[go_sem] theorem fld57_0 : fld E.P 57 0 = some (4, 0, 1) := by kernel_rfl

@[go_sem] theorem fld57_1 : fld E.P 57 1 = some (54, 1, 6) := by kernel_rfl

@[go_sem] theorem fld57_2 : fld E.P 57 2 = some (3, 7, 1) := by kernel_rfl

@[go_sem] theorem fld57_3 : fld E.P 57 3 = some (55, 8, 1) := by kernel_rfl

@[go_sem] theorem fld57_4 : fld E.P 57 4 = some (55, 9, 1) := by kernel_rfl

@[go_sem] theorem tsz61 : tsz E.P 61 = some 2 := by kernel_rfl

@[go_sem] theorem tkind61 : tkind E.P 61 = some true := by kernel_rfl

@[go_sem] theorem fld61_0 : fld E.P 61 0 = some (3, 0, 1) := by kernel_rfl

@[go_sem] theorem fld61_1 : fld E.P 61 1 = some (3, 1, 1) := by kernel_rfl

@[go_sem] theorem tsz62 : tsz E.P 62 = some 1 := by kernel_rfl

@[go_sem] theorem tkind62 : tkind E.P 62 = some false := by kernel_rfl

@[go_sem] theorem tby62 : tby E.P 62 = some 24 := by kernel_rfl

@[go_sem] theorem tz62 : ZSz E.P 62 1 = True := eq_true (zszlit (a := .sl 2 [] true) (by kernel_rfl) (by kernel_rfl))

@[go_sem] theorem ixk62 : ixk E.P 62 = some (.slice 83 2) := by kernel_rfl
@[go_sem] theorem noInt62 : noInt E.P 62 = True := eq_true ⟨_, Proofs.Tryd.underlying62, fun _ h => by cases h⟩

@[go_sem] theorem und62 : (E.P.underlying 62 ≠ none) = True := eq_true (by rw [show E.P.underlying 62 = _ from Proofs.Tryd.underlying62]; simp)

@[go_sem] theorem tsz64 : tsz E.P 64 = some 34 := by kernel_rfl

@[go_sem] theorem tkind64 : tkind E.P 64 = some true := by kernel_rfl

@[go_sem] theorem fld64_0 : fld E.P 64 0 = some (3, 0, 1) := by kernel_rfl

@[go_sem] theorem fld64_1 : fld E.P 64 1 = some (24, 1, 32) := by kernel_rfl

@[go_sem] theorem fld64_2 : fld E.P 64 2 = some (62, 33, 1) := by kernel_rfl

@[go_sem] theorem tsz68 : tsz E.P 68 = some 34 := by kernel_rfl

@[go_sem] theorem tkind68 : tkind E.P 68 = some true := by kernel_rfl

@[go_sem] theorem fld68_0 : fld E.P 68 0 = some (3, 0, 1) := by kernel_rfl

@[go_sem] theorem fld68_1 : fld E.P 68 1 = some (24, 1, 32) := by kernel_rfl

@[go_sem] theorem fld68_2 : fld E.P 68 2 = some (55, 33, 1) := by kernel_rfl

@[go_sem] theorem tsz77 : tsz E.P 77 = some 1 := by kernel_rfl

@[go_sem] theorem tkind77 : tkind E.P 77 = some false := by kernel_rfl

@[go_sem] theorem ixk77 : ixk E.P 77 = some (.slice 55 1) := by kernel_rfl
@[go_sem] theorem noInt77 : noInt E.P 77 = True := eq_true ⟨_, Proofs.Tryd.underlying77, fun _ h => by cases h⟩

@[go_sem] theorem und77 : (E.P.underlying 77 ≠ none) = True := eq_true (by rw [show E.P.underlying 77 = _ from Proofs.Tryd.underlying77]; simp)

@[go_sem] theorem tsz83 : tsz E.P 83 = some 2 := by kernel_rfl

@[go_sem] theorem tkind83 : tkind E.P 83 = some true := by kernel_rfl

@[go_sem] theorem tby83 : tby E.P 83 = some 24 := by kernel_rfl

@[go_sem] theorem tz83 : ZSz E.P 83 2 = True := eq_true (zszlit (a := .node [1, 1] [.v (.string ByteArray.empty), .v (.int .i64 0)]) (by kernel_rfl) (by kernel_rfl))

@[go_sem] theorem fld83_0 : fld E.P 83 0 = some (9, 0, 1) := by kernel_rfl

@[go_sem] theorem fld83_1 : fld E.P 83 1 = some (3, 1, 1) := by kernel_rfl

@[go_sem] theorem tsz84 : tsz E.P 84 = some 1 := by kernel_rfl

@[go_sem] theorem tkind84 : tkind E.P 84 = some false := by kernel_rfl

@[go_sem] theorem tby84 : tby E.P 84 = some 24 := by kernel_rfl

@[go_sem] theorem tz84 : ZSz E.P 84 1 = True := eq_true (zszlit (a := .sl 6 [] true) (by kernel_rfl) (by kernel_rfl))

@[go_sem] theorem ixk84 : ixk E.P 84 = some (.slice 54 6) := by kernel_rfl
@[go_sem] theorem noInt84 : noInt E.P 84 = True := eq_true ⟨_, Proofs.Tryd.underlying84, fun _ h => by cases h⟩

@[go_sem] theorem und84 : (E.P.underlying 84 ≠ none) = True := eq_true (by rw [show E.P.underlying 84 = _ from Proofs.Tryd.underlying84]; simp)

@[go_sem] theorem tsz86 : tsz E.P 86 = some 34 := by kernel_rfl

@[go_sem] theorem tkind86 : tkind E.P 86 = some true := by kernel_rfl

@[go_sem] theorem fld86_0 : fld E.P 86 0 = some (55, 0, 1) := by kernel_rfl

@[go_sem] theorem fld86_1 : fld E.P 86 1 = some (84, 1, 1) := by kernel_rfl

@[go_sem] theorem fld86_2 : fld E.P 86 2 = some (24, 2, 32) := by kernel_rfl

@[go_sem] theorem tsz91 : tsz E.P 91 = some 2 := by kernel_rfl

@[go_sem] theorem tkind91 : tkind E.P 91 = some true := by kernel_rfl

@[go_sem] theorem fld91_0 : fld E.P 91 0 = some (22, 0, 1) := by kernel_rfl

@[go_sem] theorem fld91_1 : fld E.P 91 1 = some (3, 1, 1) := by kernel_rfl

@[go_sem] theorem tsz102 : tsz E.P 102 = some 65 := by kernel_rfl

@[go_sem] theorem tkind102 : tkind E.P 102 = some true := by kernel_rfl

@[go_sem] theorem tby102 : tby E.P 102 = some 88 := by kernel_rfl

@[go_sem] theorem tz102 : ZSz E.P 102 65 = True := eq_true (zszlit (a := .node [32, 1, 32] [.arr 1 ((zeros 32).map u8), .sl 1 [] true, .arr 1 ((zeros 32).map u8)]) (by kernel_rfl) (by kernel_rfl))

@[go_sem] theorem fld102_0 : fld E.P 102 0 = some (24, 0, 32) := by kernel_rfl

@[go_sem] theorem fld102_1 : fld E.P 102 1 = some (55, 32, 1) := by kernel_rfl

@[go_sem] theorem fld102_2 : fld E.P 102 2 = some (24, 33, 32) := by kernel_rfl

@[go_sem] theorem tsz105 : tsz E.P 105 = some 35 := by kernel_rfl

@[go_sem] theorem tkind105 : tkind E.P 105 = some true := by kernel_rfl

@[go_sem] theorem tby105 : tby E.P 105 = some 88 := by kernel_rfl

@[go_sem] theorem tz105 : ZSz E.P 105 35 = True := eq_true (zszlit (a := .node [32, 1, 1, 1] [.arr 1 ((zeros 32).map u8), .v (.int .i64 0), .sl 1 [] true, .sl 1 [] true]) (by kernel_rfl) (by kernel_rfl))

@[go_sem] theorem fld105_0 : fld E.P 105 0 = some (24, 0, 32) := by kernel_rfl

@[go_sem] theorem fld105_1 : fld E.P 105 1 = some (3, 32, 1) := by kernel_rfl

@[go_sem] theorem fld105_2 : fld E.P 105 2 = some (55, 33, 1) := by kernel_rfl

@[go_sem] theorem fld105_3 : fld E.P 105 3 = some (55, 34, 1) := by kernel_rfl

@[go_sem] theorem tsz125 : tsz E.P 125 = some 3 := by kernel_rfl

@[go_sem] theorem tkind125 : tkind E.P 125 = some true := by kernel_rfl

@[go_sem] theorem fld125_0 : fld E.P 125 0 = some (55, 0, 1) := by kernel_rfl

@[go_sem] theorem fld125_1 : fld E.P 125 1 = some (3, 1, 1) := by kernel_rfl

@[go_sem] theorem fld125_2 : fld E.P 125 2 = some (35, 2, 1) := by kernel_rfl

@[go_sem] theorem tsz140 : tsz E.P 140 = some 37 := by kernel_rfl

@[go_sem] theorem tkind140 : tkind E.P 140 = some true := by kernel_rfl

@[go_sem] theorem fld140_0 : fld E.P 140 0 = some (30, 0, 36) := by kernel_rfl

@[go_sem] theorem fld140_1 : fld E.P 140 1 = some (35, 36, 1) := by kernel_rfl

@[go_sem] theorem tsz147 : tsz E.P 147 = some 1 := by kernel_rfl

@[go_sem] theorem tkind147 : tkind E.P 147 = some false := by kernel_rfl

@[go_sem] theorem ixk147 : ixk E.P 147 = some (.slice 9 1) := by kernel_rfl
@[go_sem] theorem noInt147 : noInt E.P 147 = True := eq_true ⟨_, Proofs.Tryd.underlying147, fun _ h => by cases h⟩

@[go_sem] theorem und147 : (E.P.underlying 147 ≠ none) = True := eq_true (by rw [show E.P.underlying 147 = _ from Proofs.Tryd.underlying147]; simp)

@[go_sem] theorem tsz151 : tsz E.P 151 = some 1 := by kernel_rfl

@[go_sem] theorem tkind151 : tkind E.P 151 = some false := by kernel_rfl

@[go_sem] theorem intk151 : intk E.P 151 = some .u64 := by kernel_rfl

@[go_sem] theorem und151 : (E.P.underlying 151 ≠ none) = True := eq_true (by rw [show E.P.underlying 151 = _ from Proofs.Tryd.underlying151]; simp)

@[go_sem] theorem tsz156 : tsz E.P 156 = some 0 := by kernel_rfl

@[go_sem] theorem tkind156 : tkind E.P 156 = some true := by kernel_rfl

@[go_sem] theorem tsz162 : tsz E.P 162 = some 8 := by kernel_rfl

@[go_sem] theorem tkind162 : tkind E.P 162 = some true := by kernel_rfl

@[go_sem] theorem ixk162 : ixk E.P 162 = some (.array 8 3 1) := by kernel_rfl

@[go_sem] theorem tsz169 : tsz E.P 169 = some 2 := by kernel_rfl

@[go_sem] theorem tkind169 : tkind E.P 169 = some true := by kernel_rfl

@[go_sem] theorem ixk169 : ixk E.P 169 = some (.array 2 55 1) := by kernel_rfl

@[go_sem] theorem tsz177 : tsz E.P 177 = some 1 := by kernel_rfl

@[go_sem] theorem tkind177 : tkind E.P 177 = some false := by kernel_rfl

@[go_sem] theorem tby177 : tby E.P 177 = some 4 := by kernel_rfl

@[go_sem] theorem tz177 : ZSz E.P 177 1 = True := eq_true (zszlit (a := .v (.int .u32 0)) (by kernel_rfl) (by kernel_rfl))

@[go_sem] theorem intk177 : intk E.P 177 = some .u32 := by kernel_rfl

@[go_sem] theorem und177 : (E.P.underlying 177 ≠ none) = True := eq_true (by rw [show E.P.underlying 177 = _ from Proofs.Tryd.underlying177]; simp)

@[go_sem] theorem tsz178 : tsz E.P 178 = some 8 := by kernel_rfl

@[go_sem] theorem tkind178 : tkind E.P 178 = some true := by kernel_rfl

@[go_sem] theorem tby178 : tby E.P 178 = some 32 := by kernel_rfl

@[go_sem] theorem tz178 : ZSz E.P 178 8 = True := eq_true (zszlit (a := .arr 1 ((zeros32 8).map u32)) (by kernel_rfl) (by kernel_rfl))

@[go_sem] theorem ixk178 : ixk E.P 178 = some (.array 8 177 1) := by kernel_rfl

@[go_sem] theorem tsz185 : tsz E.P 185 = some 10 := by kernel_rfl

@[go_sem] theorem tkind185 : tkind E.P 185 = some true := by kernel_rfl

@[go_sem] theorem fld185_0 : fld E.P 185 0 = some (178, 0, 8) := by kernel_rfl

@[go_sem] theorem fld185_1 : fld E.P 185 1 = some (55, 8, 1) := by kernel_rfl

@[go_sem] theorem fld185_2 : fld E.P 185 2 = some (3, 9, 1) := by kernel_rfl

@[go_sem] theorem tsz191 : tsz E.P 191 = some 64 := by kernel_rfl

@[go_sem] theorem tkind191 : tkind E.P 191 = some true := by kernel_rfl

@[go_sem] theorem ixk191 : ixk E.P 191 = some (.array 64 177 1) := by kernel_rfl

end Go.Mc
