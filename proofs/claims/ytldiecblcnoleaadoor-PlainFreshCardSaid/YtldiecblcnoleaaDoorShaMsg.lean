/- SHA-256 of a message: blocks, padding, the sum's bytes; what a Hash holds behind a message. Plain Lean. No condition. -/
import Derived.Test.YtldiecblcnoleaaDoorShaPure
namespace Go.Proofs.YtldiecblcnoleaaDoor.Sha
set_option linter.unusedVariables false
set_option linter.unusedSimpArgs false

theorem wpart_congr {b c : Nat → UInt8} {t : Nat} (ht : t < 16) (h : ∀ i, i < 64 → b i = c i) : ∀ i, i ≤ 4 → wpart b t i = wpart c t i
  | 0, _ => rfl
  | i + 1, hi => by
    simp only [wpart]
    rw [wpart_congr ht h i (by omega), h (4 * t + i) (by omega)]

theorem sch0_congr {b c : Nat → UInt8} (h : ∀ i, i < 64 → b i = c i) : ∀ t, t ≤ 16 → sch0 b t = sch0 c t
  | 0, _ => rfl
  | t + 1, ht => by
    simp only [sch0]
    rw [sch0_congr h t (by omega), wpart_congr (by omega) h 4 (Nat.le_refl _)]

theorem sch1_congr {b c : Nat → UInt8} (h : ∀ i, i < 64 → b i = c i) : ∀ t, sch1 b t = sch1 c t
  | 0 => sch0_congr h 16 (Nat.le_refl _)
  | t + 1 => by
    simp only [sch1]
    rw [sch1_congr h t]

theorem squeeze_congr {b c : Nat → UInt8} (s : S8) (h : ∀ i, i < 64 → b i = c i) : squeeze s b = squeeze s c := by
  unfold squeeze
  rw [sch1_congr h]

/-- Byte i of block k of a message. -/
def blk (m : List UInt8) (k i : Nat) : UInt8 := m.getD (64 * k + i) 0

/-- The state behind k blocks. -/
def full (m : List UInt8) : Nat → S8
  | 0 => start
  | k + 1 => squeeze (full m k) (blk m k)

/-- The state behind all full blocks. -/
def stateOf (m : List UInt8) : S8 := full m (m.length / 64)

theorem full_append (m c : List UInt8) : ∀ k, 64 * k ≤ m.length → full (m ++ c) k = full m k
  | 0, _ => rfl
  | k + 1, h => by
    simp only [full]
    rw [full_append m c k (by omega)]
    refine squeeze_congr _ fun i hi => ?_
    unfold blk
    simp [List.getElem?_append_left (show 64 * k + i < m.length by omega)]

theorem getD_append_lt (m c : List UInt8) (i : Nat) (h : i < m.length) : (m ++ c).getD i 0 = m.getD i 0 := by
  simp [List.getElem?_append_left h]
theorem getD_append_ge (m c : List UInt8) (i : Nat) (h : m.length ≤ i) : (m ++ c).getD i 0 = c.getD (i - m.length) 0 := by
  simp [List.getElem?_append_right h]

/-- A chunk that doesn't fill the block. -/
theorem state_less (m c : List UInt8) (h : m.length % 64 + c.length < 64) :
    stateOf (m ++ c) = stateOf m ∧ (m ++ c).length % 64 = m.length % 64 + c.length ∧ (m ++ c).length / 64 = m.length / 64 := by
  have e : (m ++ c).length = m.length + c.length := by simp
  have h2 : (m ++ c).length / 64 = m.length / 64 := by rw [e]; omega
  refine ⟨?_, by rw [e]; omega, h2⟩
  unfold stateOf
  rw [h2]
  exact full_append m c _ (by omega)

/-- A chunk that fills it. -/
theorem state_fills (m c : List UInt8) (h : m.length % 64 + c.length = 64) :
    stateOf (m ++ c) = squeeze (stateOf m) (blk (m ++ c) (m.length / 64)) ∧ (m ++ c).length % 64 = 0 ∧ (m ++ c).length / 64 = m.length / 64 + 1 := by
  have e : (m ++ c).length = m.length + c.length := by simp
  have h2 : (m ++ c).length / 64 = m.length / 64 + 1 := by rw [e]; omega
  refine ⟨?_, by rw [e]; omega, h2⟩
  unfold stateOf
  rw [h2]
  simp only [full]
  rw [full_append m c _ (by omega)]

/-- A block's bytes when n bytes of l have been laid from F on. -/
def putB (b : Nat → UInt8) (F n : Nat) (l : List UInt8) (i : Nat) : UInt8 := if F ≤ i ∧ i < F + n then l.getD (i - F) 0 else b i

theorem putB_blk {M : List UInt8} {b : Nat → UInt8} (h : ∀ i, i < M.length % 64 → b i = blk M (M.length / 64) i) (n : Nat) (l : List UInt8) (hn : n ≤ l.length) :
    ∀ i, i < M.length % 64 + n → putB b (M.length % 64) n l i = blk (M ++ l.take n) (M.length / 64) i := by
  intro i hi
  unfold putB
  by_cases h1 : M.length % 64 ≤ i
  · rw [if_pos ⟨h1, hi⟩]
    unfold blk
    rw [getD_append_ge _ _ _ (by omega), show 64 * (M.length / 64) + i - M.length = i - M.length % 64 from by omega]
    simp [List.getElem?_take, show i - M.length % 64 < n from by omega]
  · rw [if_neg (fun h => h1 h.1), h i (by omega)]
    unfold blk
    rw [getD_append_lt _ _ _ (by omega)]

/-- n in eight bytes, the highest first. -/
def big (n : Nat) : Nat → List UInt8
  | 0 => []
  | k + 1 => UInt8.ofNat (n / 256 ^ k) :: big n k

/-- How many bytes stand between a message and the eight of its size: the byte 128 and zeros. -/
def padLen (n : Nat) : Nat := 64 - (n + 8) % 64

def pad (n : Nat) : List UInt8 := (128 :: List.replicate (padLen n - 1) 0) ++ big (8 * n) 8

def wordBytes (x : W32) : List UInt8 := big x.toNat 4

def out (s : S8) : List UInt8 := wordBytes s.a ++ wordBytes s.b ++ wordBytes s.c ++ wordBytes s.d ++ wordBytes s.e ++ wordBytes s.f ++ wordBytes s.g ++ wordBytes s.h

/-- SHA-256. -/
def sha (m : List UInt8) : List UInt8 := out (stateOf (m ++ pad m.length))

theorem big_length (n k : Nat) : (big n k).length = k := by
  induction k with
  | zero => rfl
  | succ k ih => simp [big, ih]

theorem padLen_pos (n : Nat) : 1 ≤ padLen n ∧ padLen n ≤ 64 ∧ (n + padLen n + 8) % 64 = 0 := by
  unfold padLen
  omega

theorem pad_length (n : Nat) : (pad n).length = padLen n + 8 := by
  have := padLen_pos n
  simp [pad, big_length]
  omega

theorem out_length (s : S8) : (out s).length = 32 := by simp [out, wordBytes, big_length]

theorem sha_length (m : List UInt8) : (sha m).length = 32 := out_length _

theorem big_get (X k i : Nat) (h : i < k) : (big X k).getD i 0 = UInt8.ofNat (X / 256 ^ (k - 1 - i)) := by
  induction k generalizing i with
  | zero => omega
  | succ k ih =>
    cases i with
    | zero => rfl
    | succ i =>
      simp only [big, List.getD_cons_succ]
      rw [ih i (by omega), show k + 1 - 1 - (i + 1) = k - 1 - i from by omega]

theorem take_get (l : List UInt8) (i : Nat) (h : i < l.length) : l.take (i + 1) = l.take i ++ [l.getD i 0] := by
  rw [List.take_succ_eq_append_getElem h]
  simp [h]

/-- The bytes of the state's first i words. -/
def outP (s : S8) : Nat → List UInt8
  | 0 => []
  | i + 1 => outP s i ++ wordBytes (s.get i)

theorem outP_length (s : S8) (i : Nat) : (outP s i).length = 4 * i := by
  induction i with
  | zero => rfl
  | succ i ih => simp [outP, ih, wordBytes, big_length]; omega

theorem outP_all (s : S8) : outP s 8 = out s := by simp [outP, out, S8.get]

/-- The tail's bytes when i of the size's are laid. -/
def tailP (n i : Nat) : List UInt8 := (128 :: List.replicate (padLen n - 1) 0) ++ (big (8 * n) 8).take i

theorem tailP_length (n i : Nat) (h : i ≤ 8) : (tailP n i).length = padLen n + i := by
  have := padLen_pos n
  simp [tailP, big_length]
  omega

theorem tailP_succ (n i : Nat) (h : i < 8) : tailP n (i + 1) = tailP n i ++ [UInt8.ofNat (8 * n / 256 ^ (7 - i))] := by
  unfold tailP
  rw [take_get _ _ (by rw [big_length]; exact h), big_get _ _ _ h, List.append_assoc]

theorem tailP_all (n : Nat) : tailP n 8 = pad n := by
  unfold tailP pad
  rw [List.take_of_length_le (by rw [big_length]; exact Nat.le_refl _)]

theorem tailP_zero (n j : Nat) : (tailP n 0).getD j 0 = [(128 : UInt8)].getD j 0 := by
  unfold tailP
  cases j with
  | zero => rfl
  | succ j => simp [List.getElem?_replicate]; split <;> rfl

theorem byte_of (n : Nat) : ((UInt8.ofNat n).toNat : Int) = (n : Int) % 256 := by
  simp

example : sha [97, 98, 99] = [186, 120, 22, 191, 143, 1, 207, 234, 65, 65, 64, 222, 93, 174, 34, 35, 176, 3, 97, 163, 150, 23, 122, 156, 180, 16, 255, 97, 242, 0, 21, 173] := by decide +kernel

end Go.Proofs.YtldiecblcnoleaaDoor.Sha
