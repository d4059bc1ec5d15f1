/- wire.Number and the reference's: the same bytes. No condition. -/
import Derived.Test.YtebbmpomccjbnaaBytes
namespace Go.Proofs.Ytebbmpomccjbnaa.Wire
open Go.RowKit Go.Proofs.Ytebbmpomccjbnaa.Mem
set_option linter.unusedVariables false
set_option linter.unusedSimpArgs false

/-- A number's bytes: seven bits a byte, the lowest first. -/
def enc : Nat → Nat → List UInt8
  | 0, n => [UInt8.ofNat n]
  | k + 1, n => if 128 ≤ n then UInt8.ofNat (n % 128 + 128) :: enc k (n / 128) else [UInt8.ofNat n]

theorem enc_stop (k n : Nat) (h : n < 128) : enc k n = [UInt8.ofNat n] := by
  cases k with
  | zero => rfl
  | succ k => unfold enc; rw [if_neg (by omega)]

theorem enc_more (k n : Nat) (h : 128 ≤ n) : enc (k + 1) n = UInt8.ofNat (n % 128 + 128) :: enc k (n / 128) := by
  show (if _ then _ else _) = _
  rw [if_pos h]

theorem or_fin : ∀ x : Fin 256, bits .or .u8 (x.val : Int) 128 = (x.val : Int) % 128 + 128 := by decide +kernel

theorem or_128 (X : Nat) : bits .or .u8 ((X : Int) % 256) 128 = (X : Int) % 128 + 128 := by
  have h := or_fin ⟨X % 256, Nat.mod_lt _ (by decide)⟩
  have e : ((X % 256 : Nat) : Int) % 128 = (X : Int) % 128 := by omega
  simp only [e] at h
  rw [← h]
  rfl

set_option maxRecDepth 100000 in
theorem number_calls (N : Nat) (w : World) (hN : N < 18446744073709551616) : Calls Try.prog 8 #[.int .u64 (N : Int)] w fun e w' => e = .returned (.string (strB (enc 10 N))) ∧ Fr Nil w w' := by
  go_enter Try.func8, Try.ntmps8
  go_wp2
  go_loopw [0, 3] (fun v0 v3 wr => ∃ (k X : Nat) (l : List UInt8) (V : Value), k ≤ 9 ∧ X < 2 ^ (64 - 7 * k) ∧ v0 = .int .u64 X ∧ V = v3 ∧ Hid (enc 10 N = l ++ enc (10 - k) X) ∧ Hid (l.length = k) ∧ Own wr w.heap.size V 5 1 k (bytesF l) ∧ Fr Nil w wr) (fun v _ _ => (intOf v).toNat)
  case atStart => exact ⟨0, N, [], _, by omega, hN, rfl, rfl, rfl, rfl, Own.nil _ _ _ _ _, Fr.refl _ _⟩
  case round =>
    obtain ⟨k, X, l, V, hk, hX, rfl, rfl, HE, HL, hO, hF⟩ := hrel
    have hB := hF.size
    have hX64 : X < 18446744073709551616 := Nat.lt_of_lt_of_le hX (Nat.pow_le_pow_right (n := 2) (j := 64) (by decide) (by omega))
    by_cases hlt : 128 ≤ X
    · have hk8 : k ≤ 8 := by
        rcases Nat.lt_or_ge k 9 with h | h
        · omega
        · obtain rfl : k = 9 := by omega
          simp at hX
          omega
      have hbo := or_128 X
      go_wp2_with (at_builtin; go_must (refine wpList_append rfl _ _ 71 rfl w.heap.size 5 1 1 (.int .u8 0) Try.underlying71 info_u8 rfl (by omega) V k (bytesF l) rfl (hO.fr0 (Fr.alloc1 _ _)) wr.heap.size 0 1 1 (fun _ => .int .u8 ((X : Int) % 128 + 128)) rfl (new_one _ _ _) (fun _ _ => rfl) (by omega) (by omega) (by simp; omega) ?_); intro V' w' hO' hF' hnil')
      have hO2 := hO'.grow (y := UInt8.ofNat (X % 128 + 128)) HL.out (by rw [byte_of]; omega)
      refine ⟨⟨k + 1, X / 128, _, V', by omega, ?_, by rw [Int.natCast_ediv]; rfl, rfl, ?_, by show (l ++ _).length = k + 1; rw [List.length_append, HL.out]; rfl, hO2, (hF.alloc _).thenOwn (hO.fr0 (Fr.alloc1 _ _)) (Nat.le_refl _) hF'⟩, by simp [intOf] <;> omega⟩
      · have e : (2 : Nat) ^ (64 - 7 * k) = 128 * 2 ^ (64 - 7 * (k + 1)) := by
          rw [show 64 - 7 * k = 7 + (64 - 7 * (k + 1)) by omega, Nat.pow_add]
        rw [e] at hX
        exact Nat.div_lt_of_lt_mul hX
      · show enc 10 N = (l ++ [_]) ++ enc (10 - (k + 1)) (X / 128)
        rw [HE.out, show 10 - k = (10 - (k + 1)) + 1 by omega, enc_more _ _ hlt, List.append_assoc]
        rfl
    · go_wp2_with (at_builtin; go_must (refine wpList_append rfl _ _ 71 rfl w.heap.size 5 1 1 (.int .u8 0) Try.underlying71 info_u8 rfl (by omega) V k (bytesF l) rfl (hO.fr0 (Fr.alloc1 _ _)) wr.heap.size 0 1 1 (fun _ => .int .u8 (X : Int)) rfl (new_one _ _ _) (fun _ _ => rfl) (by omega) (by omega) (by simp; omega) ?_); intro V' w' hO' hF' hnil'; obtain ⟨g, cap, rfl, hcv⟩ := (hO'.grow (y := UInt8.ofNat X) HL.out (by rw [byte_of]; omega)).bytes_str (by rw [List.length_append, HL.out]; rfl) (by omega))
      go_ret
      refine ⟨?_, (hF.alloc _).thenOwn (hO.fr0 (Fr.alloc1 _ _)) (Nat.le_refl _) hF'⟩
      rw [HE.out, enc_stop _ _ (by omega)]
      rfl

set_option maxRecDepth 100000 in
theorem rnumber_calls (N : Nat) (w : World) (hN : N < 18446744073709551616) : Calls Try.prog 9 #[.int .u64 (N : Int)] w fun e w' => e = .returned (.string (strB (enc 10 N))) ∧ Fr Nil w w' := by
  go_enter Try.func9, Try.ntmps9
  go_wp2
  go_loopw [0, 3] (fun v0 v3 wr => ∃ (k X : Nat) (l : List UInt8) (V : Value), k ≤ 9 ∧ X < 2 ^ (64 - 7 * k) ∧ v0 = .int .u64 X ∧ V = v3 ∧ Hid (enc 10 N = l ++ enc (10 - k) X) ∧ Hid (l.length = k) ∧ Own wr w.heap.size V 5 1 k (bytesF l) ∧ Fr Nil w wr) (fun v _ _ => (intOf v).toNat)
  case atStart => exact ⟨0, N, [], _, by omega, hN, rfl, rfl, rfl, rfl, Own.nil _ _ _ _ _, Fr.refl _ _⟩
  case round =>
    obtain ⟨k, X, l, V, hk, hX, rfl, rfl, HE, HL, hO, hF⟩ := hrel
    have hB := hF.size
    have hX64 : X < 18446744073709551616 := Nat.lt_of_lt_of_le hX (Nat.pow_le_pow_right (n := 2) (j := 64) (by decide) (by omega))
    by_cases hlt : 128 ≤ X
    · have hk8 : k ≤ 8 := by
        rcases Nat.lt_or_ge k 9 with h | h
        · omega
        · obtain rfl : k = 9 := by omega
          simp at hX
          omega
      go_wp2_with (at_builtin; go_must (refine wpList_append rfl _ _ 71 rfl w.heap.size 5 1 1 (.int .u8 0) Try.underlying71 info_u8 rfl (by omega) V k (bytesF l) rfl (hO.fr0 (Fr.alloc1 _ _)) wr.heap.size 0 1 1 (fun _ => .int .u8 ((X : Int) % 128 + 128)) rfl (new_one _ _ _) (fun _ _ => rfl) (by omega) (by omega) (by simp; omega) ?_); intro V' w' hO' hF' hnil')
      have hO2 := hO'.grow (y := UInt8.ofNat (X % 128 + 128)) HL.out (by rw [byte_of]; omega)
      refine ⟨⟨k + 1, X / 128, _, V', by omega, ?_, by rw [Int.natCast_ediv]; rfl, rfl, ?_, by show (l ++ _).length = k + 1; rw [List.length_append, HL.out]; rfl, hO2, (hF.alloc _).thenOwn (hO.fr0 (Fr.alloc1 _ _)) (Nat.le_refl _) hF'⟩, by simp [intOf] <;> omega⟩
      · have e : (2 : Nat) ^ (64 - 7 * k) = 128 * 2 ^ (64 - 7 * (k + 1)) := by
          rw [show 64 - 7 * k = 7 + (64 - 7 * (k + 1)) by omega, Nat.pow_add]
        rw [e] at hX
        exact Nat.div_lt_of_lt_mul hX
      · show enc 10 N = (l ++ [_]) ++ enc (10 - (k + 1)) (X / 128)
        rw [HE.out, show 10 - k = (10 - (k + 1)) + 1 by omega, enc_more _ _ hlt, List.append_assoc]
        rfl
    · go_wp2_with (at_builtin; go_must (refine wpList_append rfl _ _ 71 rfl w.heap.size 5 1 1 (.int .u8 0) Try.underlying71 info_u8 rfl (by omega) V k (bytesF l) rfl (hO.fr0 (Fr.alloc1 _ _)) wr.heap.size 0 1 1 (fun _ => .int .u8 (X : Int)) rfl (new_one _ _ _) (fun _ _ => rfl) (by omega) (by omega) (by simp; omega) ?_); intro V' w' hO' hF' hnil'; obtain ⟨g, cap, rfl, hcv⟩ := (hO'.grow (y := UInt8.ofNat X) HL.out (by rw [byte_of]; omega)).bytes_str (by rw [List.length_append, HL.out]; rfl) (by omega))
      go_ret
      refine ⟨?_, (hF.alloc _).thenOwn (hO.fr0 (Fr.alloc1 _ _)) (Nat.le_refl _) hF'⟩
      rw [HE.out, enc_stop _ _ (by omega)]
      rfl

end Go.Proofs.Ytebbmpomccjbnaa.Wire
