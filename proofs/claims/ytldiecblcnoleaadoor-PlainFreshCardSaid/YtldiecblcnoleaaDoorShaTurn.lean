/- Contracts of RotateLeft32 and of the reference's turn. No condition but the count's bounds. -/
import Derived.Test.YtldiecblcnoleaaDoorProg
import Derived.Test.YtldiecblcnoleaaDoorMem
import Derived.Deep.QuietTactic
import Derived.BigQuiet
import Derived.Test.YtldiecblcnoleaaDoorShaPure
namespace Go.Proofs.YtldiecblcnoleaaDoor.Sha
open Go.RowKit Go.Proofs.YtldiecblcnoleaaDoor.Mem

theorem and31 : ∀ n : Fin 32, 1 ≤ n.val → bits .and .u64 (IntKind.u64.wrap (-(n.val : Int))) 31 = ((32 - n.val : Nat) : Int) := by decide

theorem rotl_calls (x : W32) (n : Nat) (h1 : 1 ≤ n) (h2 : n ≤ 31) (w : World) :
    Calls Tryd.prog 83 #[.int .u32 x.toNat, .int .i64 (-(n : Int))] w fun e w' => e = .returned (.int .u32 (rotr x n).toNat) ∧ w = w' := by
  have hk := and31 ⟨n, by omega⟩ h1
  simp only at hk
  have hp : (0 : Int) ≤ ((32 - n : Nat) : Int) := by omega
  go_enter Tryd.func83, Tryd.ntmps83
  go_wp2
  go_ret
  refine ⟨?_, rfl⟩
  rw [shl_w, shr_w, bits_or, show 32 - (32 - n) = n from by omega, BitVec.or_comm]
  rfl

theorem refturn_calls (x : W32) (n : Nat) (h1 : 1 ≤ n) (h2 : n ≤ 31) (w : World) :
    Calls Tryd.prog 82 #[.int .u32 x.toNat, .int .i64 (n : Int)] w fun e w' => e = .returned (.int .u32 (rotr x n).toNat) ∧ ∃ m, w' = w.drewN m := by
  go_enter Tryd.func82, Tryd.ntmps82
  go_wp2
  go_quiet (fail)
  go_wp2
  go_ret
  refine ⟨?_, nq, rfl⟩
  rw [shl_w, shr_w, bits_or]
  rfl

theorem rotl_s (x : W32) (k : Int) (h1 : -31 ≤ k) (h2 : k ≤ -1) (w : World) :
    Calls Tryd.prog 83 #[.int .u32 x.toNat, .int .i64 k] w fun e w' => e = .returned (.int .u32 (rotr x (-k).toNat).toNat) ∧ w = w' := by
  have h := rotl_calls x (-k).toNat (by omega) (by omega) w
  rwa [show -(((-k).toNat : Nat) : Int) = k from by omega] at h

theorem rotl_k (x : W32) (k : Int) (h1 : -31 ≤ k) (h2 : k ≤ -1) (w : World) :
    Calls Tryd.prog 83 #[.int .u32 x.toNat, .int .i64 k] w fun e w' => e = .returned (.int .u32 (rotr x (-k).toNat).toNat) ∧ ∃ m, w' = w.drewN m :=
  (rotl_s x k h1 h2 w).mono fun _ _ ⟨he, hw⟩ => ⟨he, 0, hw.symm⟩

theorem refturn_k (x : W32) (k : Int) (h1 : 1 ≤ k) (h2 : k ≤ 31) (w : World) :
    Calls Tryd.prog 82 #[.int .u32 x.toNat, .int .i64 k] w fun e w' => e = .returned (.int .u32 (rotr x k.toNat).toNat) ∧ ∃ m, w' = w.drewN m := by
  have h := refturn_calls x k.toNat (by omega) (by omega) w
  rwa [show ((k.toNat : Nat) : Int) = k from by omega] at h

end Go.Proofs.YtldiecblcnoleaaDoor.Sha
