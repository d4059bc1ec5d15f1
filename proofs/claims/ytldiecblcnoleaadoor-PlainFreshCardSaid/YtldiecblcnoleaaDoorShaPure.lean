/- SHA-256 as plain Lean functions on 32-bit words, and what the machine's 32-bit operations come to on them. No condition. -/
import Derived.WalkKit
namespace Go.Proofs.YtldiecblcnoleaaDoor.Sha
open Go.RowKit

abbrev W32 := BitVec 32

def rotr (x : W32) (n : Nat) : W32 := (x >>> n) ||| (x <<< (32 - n))

/-- The state: eight words. -/
structure S8 where
  a : W32
  b : W32
  c : W32
  d : W32
  e : W32
  f : W32
  g : W32
  h : W32

def S8.get (s : S8) : Nat → W32
  | 0 => s.a
  | 1 => s.b
  | 2 => s.c
  | 3 => s.d
  | 4 => s.e
  | 5 => s.f
  | 6 => s.g
  | _ => s.h

def S8.add (s t : S8) : S8 := ⟨s.a + t.a, s.b + t.b, s.c + t.c, s.d + t.d, s.e + t.e, s.f + t.f, s.g + t.g, s.h + t.h⟩

def one (s : S8) (k w : W32) : W32 := s.h + (rotr s.e 6 ^^^ rotr s.e 11 ^^^ rotr s.e 25) + ((s.e &&& s.f) ^^^ (~~~s.e &&& s.g)) + k + w
def two (s : S8) : W32 := (rotr s.a 2 ^^^ rotr s.a 13 ^^^ rotr s.a 22) + ((s.a &&& s.b) ^^^ (s.a &&& s.c) ^^^ (s.b &&& s.c))
def rnd (s : S8) (k w : W32) : S8 := ⟨one s k w + two s, s.a, s.b, s.c, s.d + one s k w, s.e, s.f, s.g⟩

def roundKs : List W32 := [
  1116352408, 1899447441, 3049323471, 3921009573, 961987163, 1508970993, 2453635748, 2870763221,
  3624381080, 310598401, 607225278, 1426881987, 1925078388, 2162078206, 2614888103, 3248222580,
  3835390401, 4022224774, 264347078, 604807628, 770255983, 1249150122, 1555081692, 1996064986,
  2554220882, 2821834349, 2952996808, 3210313671, 3336571891, 3584528711, 113926993, 338241895,
  666307205, 773529912, 1294757372, 1396182291, 1695183700, 1986661051, 2177026350, 2456956037,
  2730485921, 2820302411, 3259730800, 3345764771, 3516065817, 3600352804, 4094571909, 275423344,
  430227734, 506948616, 659060556, 883997877, 958139571, 1322822218, 1537002063, 1747873779,
  1955562222, 2024104815, 2227730452, 2361852424, 2428436474, 2756734187, 3204031479, 3329325298]

def start : S8 := ⟨1779033703, 3144134277, 1013904242, 2773480762, 1359893119, 2600822924, 528734635, 1541459225⟩

/-- A byte as a word. -/
def byteW (c : UInt8) : W32 := BitVec.ofNat 32 c.toNat

/-- The first i bytes of a block's word t. -/
def wpart (b : Nat → UInt8) (t : Nat) : Nat → W32
  | 0 => 0
  | i + 1 => (wpart b t i) <<< 8 ||| byteW (b (4 * t + i))

def ext (l : List W32) : W32 :=
  l.getD (l.length - 16) 0 + (rotr (l.getD (l.length - 15) 0) 7 ^^^ rotr (l.getD (l.length - 15) 0) 18 ^^^ (l.getD (l.length - 15) 0) >>> 3)
    + l.getD (l.length - 7) 0 + (rotr (l.getD (l.length - 2) 0) 17 ^^^ rotr (l.getD (l.length - 2) 0) 19 ^^^ (l.getD (l.length - 2) 0) >>> 10)

/-- A block's first t words, t at most 16. -/
def sch0 (b : Nat → UInt8) : Nat → List W32
  | 0 => []
  | t + 1 => sch0 b t ++ [wpart b t 4]

/-- A block's first 16 + t words. -/
def sch1 (b : Nat → UInt8) : Nat → List W32
  | 0 => sch0 b 16
  | t + 1 => sch1 b t ++ [ext (sch1 b t)]

theorem sch0_length (b : Nat → UInt8) (t : Nat) : (sch0 b t).length = t := by
  induction t with
  | zero => rfl
  | succ t ih => simp [sch0, ih]

theorem sch1_length (b : Nat → UInt8) (t : Nat) : (sch1 b t).length = 16 + t := by
  induction t with
  | zero => exact sch0_length b 16
  | succ t ih => simp [sch1, ih]; omega

/-- t rounds. -/
def turns (s : S8) (ws : List W32) : Nat → S8
  | 0 => s
  | t + 1 => rnd (turns s ws t) (roundKs.getD t 0) (ws.getD t 0)

/-- The state behind a block. -/
def squeeze (s : S8) (b : Nat → UInt8) : S8 := s.add (turns s (sch1 b 48) 64)

/-- What lies in memory. -/
def encW (x : W32) : Value := .int .u32 (x.toNat : Int)
def encB (c : UInt8) : Value := .int .u8 (c.toNat : Int)

theorem toNat_lt (x : W32) : x.toNat < 4294967296 := x.isLt

theorem wrap_u32 (n : Nat) (h : n < 4294967296) : IntKind.u32.wrap (n : Int) = (n : Int) := by
  have e : IntKind.u32.wrap (n : Int) = (n : Int) % 4294967296 := rfl
  rw [e]; omega

theorem ofInt_w (x : W32) : BitVec.ofInt 32 (x.toNat : Int) = x := by simp

theorem bits_xor (x y : W32) : bits .xor .u32 (x.toNat : Int) (y.toNat : Int) = ((x ^^^ y).toNat : Int) := by
  show IntKind.u32.wrap ((BitVec.ofInt 32 (x.toNat : Int) ^^^ BitVec.ofInt 32 (y.toNat : Int)).toNat : Int) = _
  rw [ofInt_w, ofInt_w, wrap_u32 _ (toNat_lt _)]
theorem bits_and (x y : W32) : bits .and .u32 (x.toNat : Int) (y.toNat : Int) = ((x &&& y).toNat : Int) := by
  show IntKind.u32.wrap ((BitVec.ofInt 32 (x.toNat : Int) &&& BitVec.ofInt 32 (y.toNat : Int)).toNat : Int) = _
  rw [ofInt_w, ofInt_w, wrap_u32 _ (toNat_lt _)]
theorem bits_or (x y : W32) : bits .or .u32 (x.toNat : Int) (y.toNat : Int) = ((x ||| y).toNat : Int) := by
  show IntKind.u32.wrap ((BitVec.ofInt 32 (x.toNat : Int) ||| BitVec.ofInt 32 (y.toNat : Int)).toNat : Int) = _
  rw [ofInt_w, ofInt_w, wrap_u32 _ (toNat_lt _)]
theorem add_w (x y : W32) : ((x.toNat : Int) + (y.toNat : Int)) % 4294967296 = ((x + y).toNat : Int) := by
  rw [BitVec.toNat_add]; omega
theorem shr_w (x : W32) (n : Nat) : (x.toNat : Int) / 2 ^ n = ((x >>> n).toNat : Int) := by
  rw [BitVec.toNat_ushiftRight, Nat.shiftRight_eq_div_pow]; norm_cast
theorem shl_w (x : W32) (n : Nat) : (x.toNat : Int) * 2 ^ n % 4294967296 = ((x <<< n).toNat : Int) := by
  rw [BitVec.toNat_shiftLeft, Nat.shiftLeft_eq, Int.natCast_emod, Int.natCast_mul, Int.natCast_pow]; rfl
theorem not_w (x : W32) : (4294967295 : Int) - x.toNat = ((~~~x).toNat : Int) := by
  rw [BitVec.toNat_not]; have := toNat_lt x; omega
theorem byte_w (c : UInt8) : (c.toNat : Int) = ((byteW c).toNat : Int) := by
  have := c.toNat_lt
  simp only [byteW, BitVec.toNat_ofNat]; omega

/-- The reference's way to take a byte in. -/
theorem mul_add_w (x : W32) (c : UInt8) : x * 256 + byteW c = x <<< 8 ||| byteW c := by
  have h : x <<< 8 &&& byteW c = 0#32 := by
    apply BitVec.eq_of_getLsbD_eq
    intro i hi
    simp only [BitVec.getLsbD_and, BitVec.getLsbD_shiftLeft, byteW, BitVec.getLsbD_ofNat]
    by_cases h8 : i < 8
    · simp [h8]
    · have : c.toNat.testBit i = false := Nat.testBit_lt_two_pow (Nat.lt_of_lt_of_le c.toNat_lt (Nat.pow_le_pow_right (by omega) (by omega : 8 ≤ i)))
      simp [this]
  rw [← BitVec.add_eq_or_of_and_eq_zero _ _ h]
  congr 1
  apply BitVec.eq_of_toNat_eq
  rw [BitVec.toNat_mul, BitVec.toNat_shiftLeft, Nat.shiftLeft_eq]; rfl

end Go.Proofs.YtldiecblcnoleaaDoor.Sha
