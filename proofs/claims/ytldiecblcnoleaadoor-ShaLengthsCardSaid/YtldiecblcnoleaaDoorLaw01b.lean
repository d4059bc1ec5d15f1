/- massiflaw01.ShaLengths: it returns true. Condition: the reference's tables hold what the row lists. -/
import Derived.Test.YtldiecblcnoleaaDoorLaw01
namespace Go.Proofs.YtldiecblcnoleaaDoor.Law01
open Go.RowKit Go.Proofs.YtldiecblcnoleaaDoor.Mem Go.Proofs.YtldiecblcnoleaaDoor.Sha
set_option linter.unusedVariables false
set_option linter.unusedSimpArgs false

theorem conv_one (x : UInt8) (w : World) : (convert 30 9 (.slice (some ⟨w.heap.size, 0, none⟩) 1 1)).run Tryd.prog (w.alloc (.cells #[.int .u8 (x.toNat : Int)] 5)) = .ok (.string ⟨#[x]⟩) (w.alloc (.cells #[.int .u8 (x.toNat : Int)] 5)) := by
  have h : Has (w.alloc (.cells #[.int .u8 (x.toNat : Int)] 5)) w.heap.size 1 5 (fun _ => .int .u8 (x.toNat : Int)) := Has.new _ _ _ _ _ rfl (fun i hi => by obtain rfl : i = 0 := (by omega); rfl)
  exact conv_bytes (P := Tryd.prog) Tryd.underlying30 Tryd.underlying5 Tryd.underlying9 h 0 1 1 [x] rfl (Nat.le_refl _) (fun j hj => by
    obtain rfl : j = 0 := (by simp at hj; omega)
    rfl)

theorem start_from (F : Int) : ∃ m : Nat, m < 200 ∧ (wrap64 (F.tmod 200 + 200)).tmod 200 = (m : Int) := by
  have h1 := Int.tmod_lt_of_pos F (show (0 : Int) < 200 by decide)
  have h2 := Int.lt_tmod_of_pos F (show (0 : Int) < 200 by decide)
  have e : wrap64 (F.tmod 200 + 200) = F.tmod 200 + 200 := IntWalk.wrap64_in _ (by omega)
  rw [e]
  have h3 := Int.tmod_lt_of_pos (F.tmod 200 + 200) (show (0 : Int) < 200 by decide)
  have h4 := Int.tmod_nonneg (200 : Int) (show 0 ≤ F.tmod 200 + 200 by omega)
  exact ⟨((F.tmod 200 + 200).tmod 200).toNat, by omega, by omega⟩

theorem Hashed.fr0 {w w' : World} {g : Nat} {m : List UInt8} {k : Int} (h : Hashed w g m k) (hF : Fr Nil w w') : Hashed w' g m k := by
  obtain ⟨b, h1, h2⟩ := h
  exact ⟨b, hF.has h1 (fun h => h), h2⟩

def rep (x : UInt8) (n : Nat) : List UInt8 := List.replicate n x

theorem rep_succ (x : UInt8) (n : Nat) : rep x (n + 1) = rep x n ++ [x] := List.replicate_succ'

set_option maxRecDepth 100000 in
set_option maxHeartbeats 1000000 in
theorem shaLengths_calls (x : UInt8) (F : Int) (w : World) (h1 : -9223372036854775808 ≤ F) (h2 : F < 9223372036854775808) (hG : GL w) :
    Calls Tryd.prog 4 #[.int .u8 (x.toNat : Int), .int .i64 F] w fun e w' => e = .returned (.bool true) ∧ Fr Nil w w' := by
  go_enter Tryd.func4, Tryd.ntmps4
  go_wp2_with (first
    | (go_at_call 11; refine (fixed_calls w).mono ?_; rintro e w1 ⟨rfl, hF1⟩)
    | (go_at_call 15; refine (new_calls _).mono ?_; rintro e w2 ⟨rfl, hN, hF2⟩))
  obtain ⟨m, hm, hmF⟩ := start_from F
  rw [hmF]
  have hF := hF1.then0 hF2
  have hgw : w.heap.size ≤ w1.heap.size := hF1.size
  obtain ⟨g, hg⟩ : ∃ g, g = w1.heap.size := ⟨_, rfl⟩
  rw [← hg] at hN hgw ⊢
  clear hmF hF1 hF2 hg
  go_loopw [6, 7] (fun v6 v7 wr => ∃ (i : Nat) (t : ByteArray), i ≤ m + 70 ∧ v7 = .int .i64 i ∧ v6 = .string t ∧ Hid (t.data.toList = rep x i) ∧ Hashed wr g (rep x i) (((rep x i).length % 18446744073709551616 : Nat) : Int) ∧ Fr Nil w wr) (fun _ v _ => m + 70 - (intOf v).toNat)
  case atStart => exact ⟨0, _, Nat.zero_le _, rfl, rfl, rfl, hashed_new hN, hF⟩
  case round =>
    clear hN hF
    obtain ⟨i, t, hi, rfl, rfl, HT, hH, hF⟩ := hrel
    have hti : t.size ≤ 300 := by rw [Lib.size_eq, HT.out, rep, List.length_replicate]; omega
    have hsum : ¬ 9223372036854775807 < t.size + (⟨#[x]⟩ : ByteArray).size := by show ¬ 9223372036854775807 < t.size + 1; omega
    have hc1 := conv_one x
    by_cases hlt : i < m + 70
    · have hnext : ∀ w4, Fr Nil w w4 → Hashed w4 g (rep x (i + 1)) (((rep x (i + 1)).length % 18446744073709551616 : Nat) : Int) → ∀ t' : ByteArray, t'.data.toList = rep x (i + 1) → ∃ (i' : Nat) (t : ByteArray), i' ≤ m + 70 ∧ Value.int .i64 ((i : Int) + 1) = .int .i64 i' ∧ Value.string t' = .string t ∧ Hid (t.data.toList = rep x i') ∧ Hashed w4 g (rep x i') (((rep x i').length % 18446744073709551616 : Nat) : Int) ∧ Fr Nil w w4 :=
        fun w4 h1 h2 t' h3 => ⟨i + 1, t', by omega, rfl, rfl, h3, h2, h1⟩
      have hA := Fr.alloc1 wr (.cells #[.int .u8 (x.toNat : Int)] 5)
      have hw := write_calls g (rep x i) _ ⟨#[x]⟩ _ (show 1 ≤ 9223372036854775807 by decide) (Hashed.fr0 hH hA)
      rw [size_add] at hw
      have e1 : rep x i ++ (⟨#[x]⟩ : ByteArray).data.toList = rep x (i + 1) := (rep_succ x i).symm
      rw [e1] at hw
      have hT2 : Hid ((t ++ ⟨#[x]⟩ : ByteArray).data.toList = rep x (i + 1)) := by
        show (t ++ ⟨#[x]⟩ : ByteArray).data.toList = rep x (i + 1)
        rw [ByteArray.data_append, Array.toList_append, HT.out, rep_succ]
      have hcat : Hid (cat (fun _ => (t ++ ⟨#[x]⟩ : ByteArray)) 1 = rep x (i + 1)) := by
        show [] ++ (t ++ ⟨#[x]⟩ : ByteArray).data.toList = _
        rw [List.nil_append, hT2.out]
      have hlen : (rep x (i + 1)).length ≤ 1099511627776 := by rw [rep, List.length_replicate]; omega
      clear e1 hi
      by_cases hmi : m ≤ i
      · go_wp2_with fail
        refine hw.mono ?_
        rintro e w4 ⟨rfl, hH4, hF4⟩
        have hF5 := ((hF.then0 hA).then1 hF4 (.inl hgw)).then0 (Fr.alloc1 w4 (.cells #[.int .u8 (x.toNat : Int)] 5))
        have hH5 := Hashed.fr0 hH4 (Fr.alloc1 w4 (.cells #[.int .u8 (x.toNat : Int)] 5))
        clear hw hH4 hF4
        go_wp2_with fail
        obtain ⟨t2, ht2⟩ : ∃ t2, t ++ ⟨#[x]⟩ = t2 := ⟨_, rfl⟩
        rw [ht2] at hT2 hcat ⊢
        clear ht2 hsum hc1
        generalize w4.alloc (.cells #[.int .u8 (x.toNat : Int)] 5) = w5 at *
        refine (sum_calls g _ w5 hH5).mono ?_
        rintro e w6 ⟨rfl, hF6⟩
        have hF6' := hF5.then0 hF6
        have hH6 := Hashed.fr0 hH5 hF6
        clear hF6 hH5 hF5
        go_wp2_with fail
        have hs6 : Has (w6.alloc (.cells #[.string t2] 9)) w6.heap.size 1 9 (fun _ => .string t2) := Has.new _ _ _ _ _ rfl (fun i hi => by obtain rfl : i = 0 := (by omega); rfl)
        have hF7 := hF6'.then0 (Fr.alloc1 w6 (.cells #[.string t2] 9))
        have hH7 := Hashed.fr0 hH6 (Fr.alloc1 w6 (.cells #[.string t2] 9))
        refine (of_calls (some ⟨w6.heap.size, 0, none⟩) 1 1 (fun _ => t2) _ (by omega) (fun _ _ => ?_) (hs6.sl 0 1 (by omega))).mono ?_
        · show t2.size ≤ _
          have := hT2.out
          rw [Lib.size_eq, this]
          omega
        rintro e w8 ⟨rfl, hF8⟩
        rw [hcat.out]
        have hF8' := hF7.then0 hF8
        have hH8 := Hashed.fr0 hH7 hF8
        clear hF7 hF8 hH7 hs6
        go_wp2_with fail
        refine (sum_calls g _ w8 hH8).mono ?_
        rintro e w9 ⟨rfl, hF9⟩
        have hF9' := hF8'.then0 hF9
        have hH9 := Hashed.fr0 hH8 hF9
        clear hF9 hH8 hF8'
        go_wp2_with fail
        have hs9 : Has (w9.alloc (.cells #[.string t2] 9)) w9.heap.size 1 9 (fun _ => .string t2) := Has.new _ _ _ _ _ rfl (fun i hi => by obtain rfl : i = 0 := (by omega); rfl)
        have hF10 := hF9'.then0 (Fr.alloc1 w9 (.cells #[.string t2] 9))
        have hH10 := Hashed.fr0 hH9 (Fr.alloc1 w9 (.cells #[.string t2] 9))
        refine (refof_calls (some ⟨w9.heap.size, 0, none⟩) 1 1 (fun _ => t2) _ (by omega) (by rw [hcat.out]; exact hlen) (hs9.sl 0 1 (by omega)) (hG.fr0 hF10)).mono ?_
        rintro e w11 ⟨rfl, hF11⟩
        rw [hcat.out]
        go_wp2
        exact ⟨hnext _ (hF10.then0 hF11) (Hashed.fr0 hH10 hF11) _ hT2, by simp [intOf]; omega⟩
      · go_wp2_with fail
        refine hw.mono ?_
        rintro e w4 ⟨rfl, hH4, hF4⟩
        have hF5 := ((hF.then0 hA).then1 hF4 (.inl hgw)).then0 (Fr.alloc1 w4 (.cells #[.int .u8 (x.toNat : Int)] 5))
        have hH5 := Hashed.fr0 hH4 (Fr.alloc1 w4 (.cells #[.int .u8 (x.toNat : Int)] 5))
        clear hw hH4 hF4
        go_wp2
        exact ⟨hnext _ hF5 hH5 _ hT2, by simp [intOf]; omega⟩
    · go_wp2
      go_ret
      exact ⟨rfl, hF⟩

end Go.Proofs.YtldiecblcnoleaaDoor.Law01
