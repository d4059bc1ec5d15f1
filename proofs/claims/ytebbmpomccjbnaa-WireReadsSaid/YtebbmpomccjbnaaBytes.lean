/- Lists of bytes as cells and as texts. No condition. -/
import Derived.Test.YtebbmpomccjbnaaOwn
import Derived.Test.YtebbmpomccjbnaaQTail
import Derived.Test.YtebbmpomccjbnaaChecked
namespace Go.Proofs.Ytebbmpomccjbnaa.Mem
open Go.RowKit
set_option linter.unusedVariables false
set_option linter.unusedSimpArgs false

def strB (l : List UInt8) : ByteArray := ⟨l.toArray⟩
theorem strB_size (l : List UInt8) : (strB l).size = l.length := by rw [Lib.size_eq]; rfl
theorem strB_list (l : List UInt8) : (strB l).data.toList = l := rfl

def bytesF (l : List UInt8) (i : Nat) : Value := .int .u8 ((l.getD i 0).toNat : Int)

theorem bytesF_grow (l : List UInt8) (y : UInt8) (j : Nat) : (if j = l.length then .int .u8 (y.toNat : Int) else bytesF l j) = bytesF (l ++ [y]) j := by
  unfold bytesF
  by_cases e : j = l.length
  · subst e
    simp
  · rw [if_neg e]
    by_cases h : j < l.length
    · simp [List.getD_eq_getElem?_getD, List.getElem?_append, h]
    · have h1 : l.length < j := by omega
      simp [List.getD_eq_getElem?_getD, List.getElem?_append, h, List.getElem?_eq_none (show l.length ≤ j by omega), List.getElem?_eq_none (show [y].length ≤ j - l.length by simp; omega)]

theorem joinF_bytes (l : List UInt8) (y : UInt8) (j : Nat) (hj : j < l.length + 1) : joinF l.length (bytesF l) (fun _ => .int .u8 (y.toNat : Int)) j = bytesF (l ++ [y]) j := by
  unfold joinF
  rw [← bytesF_grow]
  by_cases e : j < l.length
  · rw [if_pos e, if_neg (by omega)]
  · rw [if_neg e, if_pos (by omega)]

theorem Own.grow {w : World} {B n : Nat} {v : Value} {l : List UInt8} {y : UInt8} {z : Int} (h : Own w B v 5 1 (n + 1) (joinF (n * 1) (bytesF l) fun _ => .int .u8 z)) (hl : l.length = n) (hz : (y.toNat : Int) = z) : Own w B v 5 1 (n + 1) (bytesF (l ++ [y])) := by
  subst hl
  subst hz
  refine h.congr fun j hj => ?_
  rw [Nat.mul_one]
  exact joinF_bytes l y j (by omega)

theorem byte_of (n : Nat) : ((UInt8.ofNat n).toNat : Int) = (n : Int) % 256 := by
  show ((n % 256 : Nat) : Int) = _
  omega

theorem info_u8 : (Try.prog.info? 5).map (fun i => (i.zero, i.size, i.bytes)) = some (some (.int .u8 0), 1, 1) := by kernel_rfl
theorem info_str : (Try.prog.info? 9).map (fun i => (i.zero, i.size, i.bytes)) = some (some (.string ⟨#[]⟩), 1, 16) := by kernel_rfl

theorem Own.bytes_str {w : World} {B n : Nat} {v : Value} {l : List UInt8} (h : Own w B v 5 1 n (bytesF l)) (hn : l.length = n) (hl : 0 < n) :
    ∃ g cap, v = .slice (some ⟨g, 0, none⟩) n cap ∧ (convert 71 9 v).run Try.prog w = .ok (.string (strB l)) w := by
  subst hn
  rcases h.open with ⟨_, h0⟩ | ⟨g, cap, N, f', rfl, hg, hkc, hcm, hN, hH, hf'⟩
  · omega
  · refine ⟨g, cap, rfl, ?_⟩
    exact conv_bytes (P := Try.prog) Try.underlying71 Try.underlying5 Try.underlying9 hH 0 cap l.length l rfl (by omega) (fun j hj => by rw [Nat.zero_add, hf' j (by omega)]; rfl)

end Go.Proofs.Ytebbmpomccjbnaa.Mem
