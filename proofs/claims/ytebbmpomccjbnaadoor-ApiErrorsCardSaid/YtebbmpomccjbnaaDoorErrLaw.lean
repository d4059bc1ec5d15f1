/- massiftop.ApiErrors: it returns true. Condition: the third power of ten in strconv's table. -/
import Derived.Test.YtebbmpomccjbnaaDoorErr
namespace Go.Proofs.YtebbmpomccjbnaaDoor.Err
open Go.RowKit Go.Proofs.YtebbmpomccjbnaaDoor.Mem
set_option linter.unusedVariables false
set_option linter.unusedSimpArgs false

def errL : List Int := [0, 30, 31, 40, 41, 60, 61, 70, 90, 100, 101, 140, 150, 170, 171, 172, 173, 180, 190, 191, 192, 200, 210, 211, 220, 221]
def errF (i : Nat) : Value := .int .i64 (errL.getD i 0)

theorem errF_is : ∀ i, i < 26 → (#[.int .i64 0, .int .i64 30, .int .i64 31, .int .i64 40, .int .i64 41, .int .i64 60, .int .i64 61, .int .i64 70, .int .i64 90, .int .i64 100, .int .i64 101, .int .i64 140, .int .i64 150, .int .i64 170, .int .i64 171, .int .i64 172, .int .i64 173, .int .i64 180, .int .i64 190, .int .i64 191, .int .i64 192, .int .i64 200, .int .i64 210, .int .i64 211, .int .i64 220, .int .i64 221] : Array Value)[i]? = some (errF i)
  := fun i hi => match i, hi with
    | 0, _ => rfl
    | 1, _ => rfl
    | 2, _ => rfl
    | 3, _ => rfl
    | 4, _ => rfl
    | 5, _ => rfl
    | 6, _ => rfl
    | 7, _ => rfl
    | 8, _ => rfl
    | 9, _ => rfl
    | 10, _ => rfl
    | 11, _ => rfl
    | 12, _ => rfl
    | 13, _ => rfl
    | 14, _ => rfl
    | 15, _ => rfl
    | 16, _ => rfl
    | 17, _ => rfl
    | 18, _ => rfl
    | 19, _ => rfl
    | 20, _ => rfl
    | 21, _ => rfl
    | 22, _ => rfl
    | 23, _ => rfl
    | 24, _ => rfl
    | 25, _ => rfl
    | n + 26, h => absurd h (by omega)

set_option maxRecDepth 100000 in
theorem apiErrors_calls (w : World) (ht : w.cell? ⟨0, 2, none⟩ = some (.int .u64 100)) (h0 : 0 < w.heap.size) : Calls Tryd.prog 3 #[] w fun e w' => e = .returned (.bool true) ∧ Fr Nil w w' := by
  go_enter Tryd.func3, Tryd.ntmps3
  go_wp2
  obtain ⟨b, hbe⟩ : ∃ b, b = w.heap.size := ⟨_, rfl⟩
  have h1 := (Has.new w #[.int .i64 0, .int .i64 30, .int .i64 31, .int .i64 40, .int .i64 41, .int .i64 60, .int .i64 61, .int .i64 70, .int .i64 90, .int .i64 100, .int .i64 101, .int .i64 140, .int .i64 150, .int .i64 170, .int .i64 171, .int .i64 172, .int .i64 173, .int .i64 180, .int .i64 190, .int .i64 191, .int .i64 192, .int .i64 200, .int .i64 210, .int .i64 211, .int .i64 220, .int .i64 221] 22 errF 26 rfl errF_is).alloc (.cells #[.int .i64 0, .int .i64 30, .int .i64 31, .int .i64 40, .int .i64 41, .int .i64 60, .int .i64 61, .int .i64 70, .int .i64 90, .int .i64 100, .int .i64 101, .int .i64 140, .int .i64 150, .int .i64 170, .int .i64 171, .int .i64 172, .int .i64 173, .int .i64 180, .int .i64 190, .int .i64 191, .int .i64 192, .int .i64 200, .int .i64 210, .int .i64 211, .int .i64 220, .int .i64 221] 3)
  have h2 := Has.new (w.alloc (.cells #[.int .i64 0, .int .i64 30, .int .i64 31, .int .i64 40, .int .i64 41, .int .i64 60, .int .i64 61, .int .i64 70, .int .i64 90, .int .i64 100, .int .i64 101, .int .i64 140, .int .i64 150, .int .i64 170, .int .i64 171, .int .i64 172, .int .i64 173, .int .i64 180, .int .i64 190, .int .i64 191, .int .i64 192, .int .i64 200, .int .i64 210, .int .i64 211, .int .i64 220, .int .i64 221] 22)) #[.int .i64 0, .int .i64 30, .int .i64 31, .int .i64 40, .int .i64 41, .int .i64 60, .int .i64 61, .int .i64 70, .int .i64 90, .int .i64 100, .int .i64 101, .int .i64 140, .int .i64 150, .int .i64 170, .int .i64 171, .int .i64 172, .int .i64 173, .int .i64 180, .int .i64 190, .int .i64 191, .int .i64 192, .int .i64 200, .int .i64 210, .int .i64 211, .int .i64 220, .int .i64 221] 3 errF 26 rfl errF_is
  have hF := ((Fr.refl Nil w).alloc (.cells #[.int .i64 0, .int .i64 30, .int .i64 31, .int .i64 40, .int .i64 41, .int .i64 60, .int .i64 61, .int .i64 70, .int .i64 90, .int .i64 100, .int .i64 101, .int .i64 140, .int .i64 150, .int .i64 170, .int .i64 171, .int .i64 172, .int .i64 173, .int .i64 180, .int .i64 190, .int .i64 191, .int .i64 192, .int .i64 200, .int .i64 210, .int .i64 211, .int .i64 220, .int .i64 221] 22)).alloc (.cells #[.int .i64 0, .int .i64 30, .int .i64 31, .int .i64 40, .int .i64 41, .int .i64 60, .int .i64 61, .int .i64 70, .int .i64 90, .int .i64 100, .int .i64 101, .int .i64 140, .int .i64 150, .int .i64 170, .int .i64 171, .int .i64 172, .int .i64 173, .int .i64 180, .int .i64 190, .int .i64 191, .int .i64 192, .int .i64 200, .int .i64 210, .int .i64 211, .int .i64 220, .int .i64 221] 3)
  rw [← hbe] at h1 ⊢
  rw [show (w.alloc (.cells #[.int .i64 0, .int .i64 30, .int .i64 31, .int .i64 40, .int .i64 41, .int .i64 60, .int .i64 61, .int .i64 70, .int .i64 90, .int .i64 100, .int .i64 101, .int .i64 140, .int .i64 150, .int .i64 170, .int .i64 171, .int .i64 172, .int .i64 173, .int .i64 180, .int .i64 190, .int .i64 191, .int .i64 192, .int .i64 200, .int .i64 210, .int .i64 211, .int .i64 220, .int .i64 221] 22)).heap.size = b + 1 by rw [hbe]; simp] at h2
  clear hbe
  generalize World.alloc _ _ = w2 at h1 h2 hF ⊢
  go_loopw [3] (fun v3 wr => ∃ i : Nat, i ≤ 26 ∧ v3 = .int .i64 i ∧ Fr Nil w2 wr) (fun v _ => 26 - (intOf v).toNat)
  case atStart => exact ⟨0, Nat.zero_le _, rfl, Fr.refl _ _⟩
  case round =>
    obtain ⟨i, hi, rfl, hFi⟩ := hrel
    by_cases hlt : i < 26
    · have c1 := (hFi.has h1 (fun h => h)).cell i hlt
      have c2 := (hFi.has h2 (fun h => h)).cell i hlt
      unfold errF at c1 c2
      generalize errL.getD i 0 = z at *
      go_wp2
      refine QTail.quiet (fun w' => ∃ n, w' = wr.drewN n) (by kernel_rfl) (by kernel_rfl) ⟨1, rfl⟩ ?_
      repeat (first | go_big_quiet_step (fail) | quiet_step (fail))
      refine wpQuiet_nil ?_
      rintro _ ⟨x, rfl⟩
      replace hFi := hFi.drewN x
      clear c1 c2
      generalize wr.drewN x = wx at *
      go_wp2
      exact ⟨⟨i + 1, by omega, by go_num, hFi⟩, by simp [intOf]; omega⟩
    · have h26 : i = 26 := by omega
      subst h26
      have hFw := hF.then0 hFi
      have ht2 : wr.cell? ⟨0, 2, none⟩ = some (.int .u64 100) := (hFw.cell (p := ⟨0, 2, none⟩) h0 (fun h => h)).trans ht
      have h02 : 0 < wr.heap.size := Nat.lt_of_lt_of_le h0 hFw.size
      go_wp2_with (go_at_call 4; refine (itoa_calls _ ht2 h02).mono ?_; rintro e w' ⟨rfl, hx⟩)
      go_ret
      exact ⟨rfl, hFw.then0 hx⟩

end Go.Proofs.YtebbmpomccjbnaaDoor.Err
