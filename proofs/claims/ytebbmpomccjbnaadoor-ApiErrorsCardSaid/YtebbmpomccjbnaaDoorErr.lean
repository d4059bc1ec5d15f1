/- api.Errno.Error at 191: "error 191". Condition: the third power of ten in strconv's table. -/
import Derived.Test.YtebbmpomccjbnaaDoorOwn
import Derived.Test.YtebbmpomccjbnaaDoorChecked
import Derived.Test.YtebbmpomccjbnaaDoorQTail
import Derived.Test.YtebbmpomccjbnaaDoorHeld
namespace Go.Proofs.YtebbmpomccjbnaaDoor.Err
open Go.RowKit Go.Proofs.YtebbmpomccjbnaaDoor.Mem
set_option linter.unusedVariables false
set_option linter.unusedSimpArgs false

set_option maxRecDepth 100000 in
theorem len64_calls (w : World) : Calls Tryd.prog 13 #[.int .u64 191] w fun e w' => e = .returned (.int .i64 8) ∧ w' = w := by
  go_enter Tryd.func13, Tryd.ntmps13
  go_wp2
  go_ret
  exact ⟨by kernel_rfl, rfl⟩

theorem log_calls (w : World) : Calls Tryd.prog 12 #[.int .i64 8] w fun e w' => e = .returned (.int .i64 2) ∧ w' = w := by
  go_enter Tryd.func12, Tryd.ntmps12
  go_wp2
  go_ret
  exact ⟨rfl, rfl⟩

theorem bool2_calls (w : World) : Calls Tryd.prog 14 #[.bool true] w fun e w' => e = .returned (.int .i64 1) ∧ w' = w := by
  go_enter Tryd.func14, Tryd.ntmps14
  go_wp2
  go_ret
  exact ⟨rfl, rfl⟩

theorem digits_calls (w : World) (ht : w.cell? ⟨0, 2, none⟩ = some (.int .u64 100)) : Calls Tryd.prog 9 #[.int .u64 191] w fun e w' => e = .returned (.int .i64 3) ∧ w' = w := by
  go_enter Tryd.func9, Tryd.ntmps9
  go_wp2_with (first
    | (go_at_call 13; refine (len64_calls _).mono ?_; rintro e w' ⟨rfl, rfl⟩)
    | (go_at_call 12; refine (log_calls _).mono ?_; rintro e w' ⟨rfl, rfl⟩)
    | (go_at_call 14; refine (bool2_calls _).mono ?_; rintro e w' ⟨rfl, rfl⟩))
  go_ret
  exact ⟨rfl, rfl⟩

set_option maxRecDepth 100000 in
theorem format_calls (g n cap : Nat) (T : Nat) (f : Nat → Value) (w : World) (hg : Has w g n T f) (hn : 4 ≤ n) (hf : ∀ i, i < n → (f i).oneCell' = true) :
    Calls Tryd.prog 10 #[.slice (some ⟨g, 1, none⟩) 3 cap, .int .u64 191] w fun e w' => e = .returned (.tuple #[]) ∧ Has w' g n T (fun i => if i = 1 then .int .u8 49 else if i = 2 then .int .u8 57 else if i = 3 then .int .u8 49 else f i) ∧ Fr (· = g) w w' := by
  have c1 := hg.cell 1 (by omega)
  have c2 := hg.cell 2 (by omega)
  have c3 := hg.cell 3 (by omega)
  have f1 := hg.free 1
  have f2 := hg.free 2
  have f3 := hg.free 3
  go_enter Tryd.func10, Tryd.ntmps10
  go_wp2
  go_loop [1, 4] (fun u v => u = .int .u64 191 ∧ v = .int .i64 3) (fun _ _ => 0)
  case atStart => exact ⟨rfl, rfl⟩
  case round =>
    obtain ⟨rfl, rfl⟩ := hrel
    go_wp2
    have hS : Fr (· = g) w w.drew := (Fr.refl _ _).drew
    refine Held.way (fun w' => Fr (· = g) w w') (by kernel_rfl) ?_
    simp only [List.zipIdx_cons, List.zipIdx_nil, Nat.zero_add, Nat.reduceAdd]
    refine Held.Way.take (.slice (some ⟨g, 1, none⟩) 3 cap) (by kernel_rfl) (by kernel_rfl) (by kernel_rfl) rfl (fun w' hw' => by kernel_rfl) hS ?_
    simp only [Act.put, List.setIfInBounds_toArray, List.set_cons_succ, List.set_cons_zero]
    refine Held.Way.take (.int .i64 3) (by kernel_rfl) (by kernel_rfl) (by kernel_rfl) rfl (fun w' hw' => by kernel_rfl) hS ?_
    simp only [Act.put, List.setIfInBounds_toArray, List.set_cons_succ, List.set_cons_zero]
    refine Held.Way.take (.int .i64 2) (by kernel_rfl) (by kernel_rfl) (by kernel_rfl) rfl (fun w' hw' => by kernel_rfl) hS ?_
    simp only [Act.put, List.setIfInBounds_toArray, List.set_cons_succ, List.set_cons_zero]
    refine Held.Way.take (.slice (some ⟨g, 1, none⟩) 3 cap) (by kernel_rfl) (by kernel_rfl) (by kernel_rfl) rfl (fun w' hw' => by kernel_rfl) hS ?_
    simp only [Act.put, List.setIfInBounds_toArray, List.set_cons_succ, List.set_cons_zero]
    refine Held.Way.take (.int .i64 3) (by kernel_rfl) (by kernel_rfl) (by kernel_rfl) rfl (fun w' hw' => by kernel_rfl) hS ?_
    simp only [Act.put, List.setIfInBounds_toArray, List.set_cons_succ, List.set_cons_zero]
    refine Held.Way.take (.int .i64 1) (by kernel_rfl) (by kernel_rfl) (by kernel_rfl) rfl (fun w' hw' => by kernel_rfl) hS ?_
    simp only [Act.put, List.setIfInBounds_toArray, List.set_cons_succ, List.set_cons_zero]
    refine Held.Way.take (.int .u32 182) (by kernel_rfl) (by kernel_rfl) (by kernel_rfl) rfl (fun w' hw' => by kernel_rfl) hS ?_
    simp only [Act.put, List.setIfInBounds_toArray, List.set_cons_succ, List.set_cons_zero]
    refine Held.Way.take (.int .u32 183) (by kernel_rfl) (by kernel_rfl) (by kernel_rfl) rfl (fun w' hw' => by kernel_rfl) hS ?_
    simp only [Act.put, List.setIfInBounds_toArray, List.set_cons_succ, List.set_cons_zero]
    refine Held.Way.take (.int .u8 49) (by kernel_rfl) (by kernel_rfl) (by kernel_rfl) rfl (fun w' hw' => by kernel_rfl) hS ?_
    simp only [Act.put, List.setIfInBounds_toArray, List.set_cons_succ, List.set_cons_zero]
    refine Held.Way.take (.int .u32 182) (by kernel_rfl) (by kernel_rfl) (by kernel_rfl) rfl (fun w' hw' => by kernel_rfl) hS ?_
    simp only [Act.put, List.setIfInBounds_toArray, List.set_cons_succ, List.set_cons_zero]
    refine Held.Way.take (.int .u8 57) (by kernel_rfl) (by kernel_rfl) (by kernel_rfl) rfl (fun w' hw' => by kernel_rfl) hS ?_
    simp only [Act.put, List.setIfInBounds_toArray, List.set_cons_succ, List.set_cons_zero]
    refine Held.Way.take (.pointer (some ⟨g, 3, none⟩)) (by kernel_rfl) (by kernel_rfl) (by kernel_rfl) rfl (fun w' hw' => by kernel_rfl) hS ?_
    simp only [Act.put, List.setIfInBounds_toArray, List.set_cons_succ, List.set_cons_zero]
    refine Held.Way.skipIf (w.drew.setCell ⟨g, 3, none⟩ (.int .u8 49)) (by kernel_rfl) (by kernel_rfl) (by go_simp) (hS.setCell _ _ (.inr rfl)) ?_
    simp only [Act.put, List.setIfInBounds_toArray, List.set_cons_succ, List.set_cons_zero]
    refine Held.Way.take (.pointer (some ⟨g, 2, none⟩)) (by kernel_rfl) (by kernel_rfl) (by kernel_rfl) rfl (fun w' hw' => by kernel_rfl) (hS.setCell _ _ (.inr rfl)) ?_
    simp only [Act.put, List.setIfInBounds_toArray, List.set_cons_succ, List.set_cons_zero]
    refine Held.Way.skipIf ((w.drew.setCell ⟨g, 3, none⟩ (.int .u8 49)).setCell ⟨g, 2, none⟩ (.int .u8 57)) (by kernel_rfl) (by kernel_rfl) (by go_simp) ((hS.setCell _ _ (.inr rfl)).setCell _ _ (.inr rfl)) ?_
    simp only [Act.put, List.setIfInBounds_toArray, List.set_cons_succ, List.set_cons_zero]
    refine Held.Way.nil (by kernel_rfl) ?_
    go_wp2
    go_end0
    refine ⟨rfl, ((((hg.put 3 _).put 2 _).put 1 _).drew).congr fun i hi => ?_, (((hS.setCell ⟨g, 3, none⟩ _ (.inr rfl)).setCell ⟨g, 2, none⟩ _ (.inr rfl)).setCell ⟨g, 1, none⟩ _ (.inr rfl))⟩
    rfl

theorem alloc24 (w : World) : (Instr.alloc 29 true (.tuple #[])).run Tryd.prog w = .ok (.pointer (some ⟨w.heap.size, 0, none⟩)) (w.alloc (.cells (cellsF 24 (fun _ => .int .u8 0)).toArray 29)) := by kernel_rfl

set_option maxRecDepth 100000 in
theorem int_calls (w : World) (ht : w.cell? ⟨0, 2, none⟩ = some (.int .u64 100)) (h0 : 0 < w.heap.size) : Calls Tryd.prog 7 #[.int .i64 191, .int .i64 10] w fun e w' => e = .returned (.string ⟨#[49, 57, 49]⟩) ∧ Fr Nil w w' := by
  go_enter Tryd.func7, Tryd.ntmps7
  go_wp2_with (refine wpList_alloc rfl 29 rfl 24 29 _ (alloc24 _) ?_; intro w2 hB hF hz)
  obtain ⟨b, hbe⟩ : ∃ b, b = w.heap.size := ⟨_, rfl⟩
  rw [← hbe] at hB ⊢
  have hwb : w.heap.size ≤ b := by omega
  have ht2 : w2.cell? ⟨0, 2, none⟩ = some (.int .u64 100) := (hF.cell (p := ⟨0, 2, none⟩) h0 (fun h => h)).trans ht
  clear hbe
  go_wp2_with fail
  refine (digits_calls _ ht2).mono ?_
  rintro e w3 ⟨rfl, rfl⟩
  have hsl := slice_arr (P := Tryd.prog) Tryd.underlying29 w3 (by kernel_rfl) b 0 1 4 (by omega) (by omega) (by omega)
  go_wp2_with fail
  refine (format_calls b 24 23 _ _ _ hB (by omega) (fun _ _ => rfl)).mono ?_
  rintro e w4 ⟨rfl, hB4, hF4⟩
  have hF5 := hF.then1 hF4 (.inl hwb)
  have hsl4 := slice_arr (P := Tryd.prog) Tryd.underlying29 w4 (by kernel_rfl) b 0 1 4 (by omega) (by omega) (by omega)
  have hcv := conv_bytes (P := Tryd.prog) Tryd.underlying33 Tryd.underlying5 Tryd.underlying9 hB4 1 23 3 [49, 57, 49] rfl (by decide) (fun j hj => by
    match j, hj with
    | 0, _ => rfl
    | 1, _ => rfl
    | 2, _ => rfl)
  clear hsl
  go_wp2
  go_ret
  exact ⟨rfl, hF5⟩

theorem itoa_calls (w : World) (ht : w.cell? ⟨0, 2, none⟩ = some (.int .u64 100)) (h0 : 0 < w.heap.size) : Calls Tryd.prog 4 #[.int .i64 191] w fun e w' => e = .returned (.string ⟨#[101, 114, 114, 111, 114, 32, 49, 57, 49]⟩) ∧ Fr Nil w w' := by
  have h1 : Calls Tryd.prog 6 #[.int .i64 191] w fun e w' => e = .returned (.string ⟨#[49, 57, 49]⟩) ∧ Fr Nil w w' := by
    go_enter Tryd.func6, Tryd.ntmps6
    go_wp2_with (go_at_call 7; refine (int_calls _ ht h0).mono ?_; rintro e w' ⟨rfl, hF⟩)
    go_ret
    exact ⟨rfl, hF⟩
  have h2 : Calls Tryd.prog 5 #[.int .i64 191] w fun e w' => e = .returned (.string ⟨#[49, 57, 49]⟩) ∧ Fr Nil w w' := by
    have H := Lib.hid h1
    clear h1
    go_enter Tryd.func5, Tryd.ntmps5
    go_wp2_with (go_at_call 6; refine H.out.mono ?_; rintro e w' ⟨rfl, hF⟩)
    go_ret
    exact ⟨rfl, hF⟩
  have H := Lib.hid h2
  clear h1 h2
  go_enter Tryd.func4, Tryd.ntmps4
  go_wp2_with (go_at_call 5; refine H.out.mono ?_; rintro e w' ⟨rfl, hF⟩)
  go_ret
  exact ⟨by kernel_rfl, hF⟩

end Go.Proofs.YtebbmpomccjbnaaDoor.Err
