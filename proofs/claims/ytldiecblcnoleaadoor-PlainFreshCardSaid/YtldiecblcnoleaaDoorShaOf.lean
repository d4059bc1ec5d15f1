/- The contract of sha.Of: the sum of its parts, one behind the other. Condition: the parts can be read. -/
import Derived.Test.YtldiecblcnoleaaDoorShaSum
namespace Go.Proofs.YtldiecblcnoleaaDoor.Sha
open Go.RowKit Go.Proofs.YtldiecblcnoleaaDoor.Mem
set_option linter.unusedVariables false
set_option linter.unusedSimpArgs false

/-- The first n parts, one behind the other. -/
def cat (f : Nat → ByteArray) : Nat → List UInt8
  | 0 => []
  | i + 1 => cat f i ++ (f i).data.toList

theorem size_add (m : List UInt8) (s : ByteArray) : IntKind.u64.wrap (((m.length % 18446744073709551616 : Nat) : Int) + s.size) = (((m ++ s.data.toList).length % 18446744073709551616 : Nat) : Int) := by
  have hw : ∀ x : Int, IntKind.u64.wrap x = x % 18446744073709551616 := fun _ => rfl
  rw [hw, List.length_append, ← Lib.size_eq]
  omega

theorem hashed_new {w : World} {g : Nat} (h : Has w g 74 85 (hashF start (fun _ => 0) 0 0)) : Hashed w g [] ((([] : List UInt8).length % 18446744073709551616 : Nat) : Int) :=
  ⟨fun _ => 0, h, fun i hi => by simp at hi⟩

set_option maxRecDepth 100000 in
set_option maxHeartbeats 1000000 in
theorem of_calls (A : Option Addr) (n cap : Nat) (f : Nat → ByteArray) (w : World) (hn : n ≤ 9223372036854775807) (hs : ∀ i, i < n → (f i).size ≤ 9223372036854775807) (hA : SlAt w A n (fun i => .string (f i))) :
    Calls Tryd.prog 13 #[.slice A n cap] w fun e w' => e = .returned (.string (strB (sha (cat f n)))) ∧ Fr Nil w w' := by
  go_enter Tryd.func13, Tryd.ntmps13
  go_wp2_with (go_at_call 15; refine (new_calls _).mono ?_; rintro e w1 ⟨rfl, hN, hF1⟩)
  obtain ⟨g, hg⟩ : ∃ g, g = w.heap.size := ⟨_, rfl⟩
  rw [← hg] at hN ⊢
  have HG := Lib.hid hg
  clear hg
  go_loopw [9] (fun v9 wr => ∃ i : Nat, i ≤ n ∧ v9 = .int .i64 i ∧ Hashed wr g (cat f i) (((cat f i).length % 18446744073709551616 : Nat) : Int) ∧ Fr Nil w wr) (fun v _ => n - (intOf v).toNat)
  case atStart => exact ⟨0, Nat.zero_le _, rfl, hashed_new hN, hF1⟩
  case round =>
    clear hN hF1
    obtain ⟨i, hi, rfl, hH, hF⟩ := hrel
    by_cases hlt : i < n
    · obtain ⟨b, o, rfl, hb, hc⟩ := (hA.fr hF).at (by omega)
      have hci := hc i hlt
      clear hc
      go_wp2_with fail
      refine (write_calls g _ _ (f i) wr (hs i hlt) hH).mono ?_
      rintro e w2 ⟨rfl, hH2, hF2⟩
      rw [size_add] at hH2
      have hF3 := hF.then1 hF2 (.inl (by rw [HG.out]; exact Nat.le_refl _))
      go_wp2
      exact ⟨⟨i + 1, by omega, by go_num, hH2, hF3⟩, by simp [intOf]; omega⟩
    · have hin : i = n := by omega
      subst hin
      go_wp2_with fail
      refine (sum_calls g _ wr hH).mono ?_
      rintro e w2 ⟨rfl, hF2⟩
      go_wp2
      go_ret
      exact ⟨rfl, hF.then0 hF2⟩

end Go.Proofs.YtldiecblcnoleaaDoor.Sha
