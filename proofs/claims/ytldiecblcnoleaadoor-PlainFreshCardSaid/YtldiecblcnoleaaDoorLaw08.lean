/- massiflaw08: its helpers. Conditions: the lists can be read; sizes. -/
import Derived.Test.YtldiecblcnoleaaDoorRefR08
import Derived.Lib.Hide
namespace Go.Proofs.YtldiecblcnoleaaDoor.Plain
open Go.RowKit Go.Proofs.YtldiecblcnoleaaDoor.Mem Go.Proofs.YtldiecblcnoleaaDoor.Sha Go.Proofs.YtldiecblcnoleaaDoor.Hash
set_option linter.unusedVariables false
set_option linter.unusedSimpArgs false

def mark : ByteArray := ⟨#[109, 97, 114, 107]⟩

set_option maxRecDepth 100000 in
theorem lent_calls (A : Option Addr) (n cap : Nat) (f : Nat → ByteArray) (w : World) (hn : n ≤ 8796093022207) (hA : SlAt w A n (fun i => .string (f i))) (hnil : A = none → n = 0 ∧ cap = 0) :
    Calls Tryd.prog 46 #[.slice A n cap] w fun e w' => ∃ g cap2 N f', e = .returned (.slice (some ⟨g, 0, none⟩) n cap2) ∧ w.heap.size ≤ g ∧ n + 1 ≤ cap2 ∧ cap2 ≤ 9223372036854775807 ∧ n + 1 ≤ N ∧ Has w' g N 9 f' ∧ (∀ j, j < n → f' j = .string (f j)) ∧ f' n = .string mark ∧ Fr Nil w w' := by
  go_enter Tryd.func46, Tryd.ntmps46
  have hA1 : SlAt w A (n * 1) (fun i => .string (f i)) := by rw [Nat.mul_one]; exact hA
  go_wp2_with (first
    | (refine wpList_append_sl rfl _ _ 22 rfl w.heap.size 9 1 16 (.string ⟨#[]⟩) Tryd.underlying22 info_str rfl (by omega) (.slice none 0 0) 0 (fun _ => .int .i64 0) rfl (Own.nil _ _ _ _ _) A n cap (fun i => .string (f i)) rfl hA1 hnil (fun _ _ => rfl) (by omega) (by omega) (Nat.le_refl _) ?_; intro v1 w1 hO1 hF1; have hF1' : Fr Nil w w1 := hF1.mono (fun _ _ h => by cases h); have hw1 := hF1'.size)
    | (at_builtin; go_must (refine wpList_append rfl _ _ 22 rfl w.heap.size 9 1 16 (.string ⟨#[]⟩) Tryd.underlying22 info_str rfl (by omega) v1 (0 + n) _ rfl (hO1.fr0 (Fr.alloc1 _ _)) w1.heap.size 0 1 1 (fun _ => .string mark) rfl (new_one _ _ _) (fun _ _ => rfl) (by omega) (by omega) (by simp; omega) ?_); intro v2 w2 hO2 hF2 _; rcases hO2.open with ⟨_, h0⟩ | ⟨g, cap2, N, f', rfl, hg, hkc, hcm, hN, hH, hf'⟩; (exfalso; omega); have hkc2 : n ≤ cap2 := (by omega)))
  go_ret
  have hcm2 : cap2 ≤ 9223372036854775807 := hcm
  refine ⟨g, cap2, N, f', rfl, hg, by omega, hcm2, by omega, hH, fun j hj => ?_, ?_, (hF1'.alloc _).thenOwn (hO1.fr0 (Fr.alloc1 _ _)) (Nat.le_refl _) hF2⟩
  · rw [hf' j (by omega)]
    unfold joinF
    rw [if_pos (by omega), if_neg (by omega), Nat.zero_mul, Nat.sub_zero]
  · rw [hf' n (by omega)]
    unfold joinF
    rw [if_neg (by omega)]


set_option maxRecDepth 100000 in
theorem few_calls (A : Option Addr) (n cap : Nat) (w : World) (hc : n ≤ cap) (hc2 : cap ≤ 9223372036854775807) :
    Calls Tryd.prog 42 #[.slice A n cap] w fun e w' => e = .returned (.slice A (min n 300) cap) ∧ Fr Nil w w' := by
  by_cases h : 300 < n
  · rw [Nat.min_eq_right (by omega)]
    go_enter Tryd.func42, Tryd.ntmps42
    cases A with
    | none =>
      go_wp2
      go_ret
      exact ⟨rfl, Fr.refl _ _⟩
    | some ad =>
      go_wp2
      go_ret
      exact ⟨rfl, Fr.refl _ _⟩
  · rw [Nat.min_eq_left (by omega)]
    go_enter Tryd.func42, Tryd.ntmps42
    go_wp2
    go_ret
    exact ⟨rfl, Fr.refl _ _⟩

set_option maxRecDepth 100000 in
theorem same_calls (A B : Option Addr) (n c1 c2 : Nat) (f : Nat → ByteArray) (w : World) (hn : n ≤ 9223372036854775807) (hA : SlAt w A n (fun i => .string (f i))) (hB : SlAt w B n (fun i => .string (f i))) :
    Calls Tryd.prog 44 #[.slice A n c1, .slice B n c2] w fun e w' => e = .returned (.bool true) ∧ Fr Nil w w' := by
  go_enter Tryd.func44, Tryd.ntmps44
  go_wp2
  go_loopw [5] (fun v5 wr => ∃ j : Nat, j ≤ n ∧ v5 = .int .i64 j ∧ Fr Nil w wr) (fun v _ => n - (intOf v).toNat)
  case atStart => exact ⟨0, Nat.zero_le _, rfl, Fr.refl _ _⟩
  case round =>
    obtain ⟨j, hj, rfl, hF⟩ := hrel
    by_cases hlj : j < n
    · obtain ⟨a, o, rfl, ha, hca⟩ := (hA.fr hF).at (by omega)
      obtain ⟨b, p, rfl, hb, hcb⟩ := (hB.fr hF).at (by omega)
      have h1 := hca j hlj
      have h2 := hcb j hlj
      clear hca hcb
      go_wp2
      refine QTail.quiet (fun w' => ∃ n, w' = wr.drewN n) (by kernel_rfl) (by kernel_rfl) ⟨1, rfl⟩ ?_
      repeat (first | go_big_quiet_step (fail) | quiet_step (fail))
      refine wpQuiet_nil ?_
      rintro _ ⟨x, rfl⟩
      replace hF := hF.drewN x
      clear h1 h2
      generalize wr.drewN x = wx at *
      go_wp2
      exact ⟨⟨j + 1, by omega, by go_num, hF⟩, by simp [intOf]; omega⟩
    · have hji : j = n := by omega
      subst hji
      go_wp2
      go_ret
      exact ⟨rfl, hF⟩

set_option maxRecDepth 100000 in
theorem whole_calls (g n cap2 N : Nat) (f' : Nat → Value) (A : Option Addr) (cap : Nat) (f : Nat → ByteArray) (w : World) (hn : n ≤ 8796093022207) (hH : Has w g N 9 f') (hN : n + 1 ≤ N) (hc2 : n + 1 ≤ cap2) (hc3 : cap2 ≤ 9223372036854775807)
    (hf : ∀ j, j < n → f' j = .string (f j)) (hfn : f' n = .string mark) (hA : SlAt w A n (fun i => .string (f i))) :
    Calls Tryd.prog 51 #[.slice (some ⟨g, 0, none⟩) n cap2, .slice A n cap] w fun e w' => e = .returned (.bool true) ∧ Fr Nil w w' := by
  go_enter Tryd.func51, Tryd.ntmps51
  go_wp2_with fail
  refine (same_calls _ A n cap2 cap f w (by omega) ((hH.sl 0 n (by omega)).congr fun i hi => by rw [Nat.zero_add]; exact hf i hi) hA).mono ?_
  rintro e w1 ⟨rfl, hF⟩
  have c1 := (hF.has hH (fun h => h)).cell n (by omega)
  rw [hfn] at c1
  unfold mark at c1
  clear hfn hf
  go_wp2
  go_ret
  exact ⟨rfl, hF⟩

def abF (i : Nat) : ByteArray := if i = 0 then ⟨#[97]⟩ else ⟨#[98]⟩

theorem root_two : rootOf 8 abF 2 = dig 8 (rootT 2 (bagged 8 (fun _ => dig 8 (nodeT (dig 8 (leafT ⟨#[97]⟩)) (dig 8 (leafT ⟨#[98]⟩)))) 1)) := by
  unfold rootOf
  rw [peaksL_step 8 abF 2 0 1 2 (by decide) rfl (by decide) (by decide)]
  rfl

set_option maxRecDepth 100000 in
set_option maxHeartbeats 1000000 in
theorem alive_calls (w : World) : Calls Tryd.prog 41 #[] w fun e w' => e = .returned (.bool true) ∧ Fr Nil w w' := by
  go_enter Tryd.func41, Tryd.ntmps41
  go_wp2_with fail
  have hl : Has (w.alloc (.cells #[.string ⟨#[97]⟩, .string ⟨#[98]⟩] 9)) w.heap.size 2 9 (fun i => .string (abF i)) := Has.new _ _ _ _ 2 rfl (fun i hi => by
    have e : i = 0 ∨ i = 1 := by omega
    rcases e with rfl | rfl <;> rfl)
  have hF := Fr.alloc1 w (.cells #[.string ⟨#[97]⟩, .string ⟨#[98]⟩] 9)
  refine (root_calls 8 (some ⟨w.heap.size, 0, none⟩) 2 2 abF 2 _ (by decide) (by decide) (by decide) (fun i _ => by unfold abF; split <;> decide) (hl.sl 0 2 (by omega) |>.congr fun i hi => by rw [Nat.zero_add]) (by decide)).mono ?_
  rintro e w1 ⟨rfl, hx⟩
  replace hF := hF.then0 hx
  have e1 : rootE 8 2 2 = 0 := rfl
  have e2 : rootN 8 2 2 = 2 := rfl
  have e3 : rootD 8 abF 2 2 = rootOf 8 abF 2 := rfl
  rw [e1, e2, e3, root_two]
  have h1 := fun w => leaf_dig 8 ⟨#[97]⟩ w (by decide)
  have h2 := fun w => leaf_dig 8 ⟨#[98]⟩ w (by decide)
  have s1 := dig_size 8 (leafT ⟨#[97]⟩)
  have s2 := dig_size 8 (leafT ⟨#[98]⟩)
  have h3 := fun w => node_dig 8 (dig 8 (leafT ⟨#[97]⟩)) (dig 8 (leafT ⟨#[98]⟩)) w (by rw [s1]; decide) (by rw [s2]; decide)
  clear e1 e2 e3 hl hx
  generalize dig 8 (leafT ⟨#[97]⟩) = X at *
  generalize dig 8 (leafT ⟨#[98]⟩) = Y at *
  have s3 := dig_size 8 (nodeT X Y)
  generalize dig 8 (nodeT X Y) = Z at *
  have h4 := fun (w : World) (b : Nat) (hb : SlAt w (some ⟨b, 0, none⟩) 1 (fun i => .string Z)) => root_dig 8 2 (some ⟨b, 0, none⟩) 1 1 (fun _ => Z) w (by decide) (by decide) (fun _ _ => by rw [s3]; decide) hb
  generalize dig 8 (rootT 2 (bagged 8 (fun _ => Z) 1)) = R at *
  have H1 := Lib.hid h1
  have H2 := Lib.hid h2
  have H3 := Lib.hid h3
  have H4 := Lib.hid h4
  clear h1 h2 h3 h4 s1 s2 s3
  unfold rootV
  go_wp2_with fail
  obtain ⟨w2, hw2⟩ : ∃ w2, w2 = w1.alloc (.cells #[.int .u64 2, .string R] 56) := ⟨_, rfl⟩
  have hr := Has.new w1 #[.int .u64 2, .string R] 56 (rootF 2 R) 2 rfl (fun i hi => by
    have e : i = 0 ∨ i = 1 := by omega
    rcases e with rfl | rfl <;> rfl)
  replace hF := hF.alloc (.cells #[.int .u64 2, .string R] 56)
  rw [← hw2] at hr hF ⊢
  clear hw2
  have hc0 : ∀ w', Fr Nil w2 w' → w'.cell? ⟨w1.heap.size, 0, none⟩ = some (.int .u64 2) := fun w' hf => (hf.has hr (fun h => h)).cell 0 (by omega)
  have hc1 : ∀ w', Fr Nil w2 w' → w'.cell? ⟨w1.heap.size, 1, none⟩ = some (.string R) := fun w' hf => (hf.has hr (fun h => h)).cell 1 (by omega)
  clear hr
  refine Held.walk (fun w' => Fr Nil w2 w') (by kernel_rfl) ?_
  have hFi : Fr Nil w2 w2.drew := (Fr.refl _ _).drew
  generalize w2.drew = w' at *
  refine Held.Walk.take (.int .i64 0) (by kernel_rfl) (by kernel_rfl) (by kernel_rfl) rfl (fun w' hw' => by go_simp) hFi ?_
  simp only [Act.put, List.setIfInBounds_toArray, List.set_cons_succ, List.set_cons_zero]
  refine Held.Walk.take (.bool true) (by kernel_rfl) (by kernel_rfl) (by kernel_rfl) rfl (fun w' hw' => by go_simp) hFi ?_
  simp only [Act.put, List.setIfInBounds_toArray, List.set_cons_succ, List.set_cons_zero]
  refine Held.Walk.take (.bool true) (by kernel_rfl) (by kernel_rfl) (by kernel_rfl) rfl (fun w' hw' => by go_simp) hFi ?_
  simp only [Act.put, List.setIfInBounds_toArray, List.set_cons_succ, List.set_cons_zero]
  refine Held.Walk.takeIf (.pointer (some ⟨w1.heap.size, 0, none⟩)) (by kernel_rfl) (by kernel_rfl) (by kernel_rfl) (by kernel_rfl) (fun w' hw' => by go_simp) hFi ?_
  simp only [Act.put, List.setIfInBounds_toArray, List.set_cons_succ, List.set_cons_zero]
  refine Held.Walk.takeIf (.int .u64 2) (by kernel_rfl) (by kernel_rfl) (by kernel_rfl) (by kernel_rfl) (fun w' hw' => by have c := hc0 w' hw'; go_simp) hFi ?_
  simp only [Act.put, List.setIfInBounds_toArray, List.set_cons_succ, List.set_cons_zero]
  refine Held.Walk.takeIf (.bool true) (by kernel_rfl) (by kernel_rfl) (by kernel_rfl) (by kernel_rfl) (fun w' hw' => by go_simp) hFi ?_
  simp only [Act.put, List.setIfInBounds_toArray, List.set_cons_succ, List.set_cons_zero]
  refine Held.Walk.take (.bool true) (by kernel_rfl) (by kernel_rfl) (by kernel_rfl) rfl (fun w' hw' => by go_simp) hFi ?_
  simp only [Act.put, List.setIfInBounds_toArray, List.set_cons_succ, List.set_cons_zero]
  refine Held.Walk.take (.bool true) (by kernel_rfl) (by kernel_rfl) (by kernel_rfl) rfl (fun w' hw' => by go_simp) hFi ?_
  simp only [Act.put, List.setIfInBounds_toArray, List.set_cons_succ, List.set_cons_zero]
  refine Held.Walk.takeIf (.pointer (some ⟨w1.heap.size, 1, none⟩)) (by kernel_rfl) (by kernel_rfl) (by kernel_rfl) (by kernel_rfl) (fun w' hw' => by go_simp) hFi ?_
  simp only [Act.put, List.setIfInBounds_toArray, List.set_cons_succ, List.set_cons_zero]
  refine Held.Walk.takeIf (.string R) (by kernel_rfl) (by kernel_rfl) (by kernel_rfl) (by kernel_rfl) (fun w' hw' => by have c := hc1 w' hw'; go_simp) hFi ?_
  simp only [Act.put, List.setIfInBounds_toArray, List.set_cons_succ, List.set_cons_zero]
  refine Held.Walk.callIf 32 #[.int .i64 8, .string ⟨#[97]⟩] (by kernel_rfl) (by kernel_rfl) (by go_simp) ?_
  refine (H1.out _).mono ?_
  rintro e w' ⟨rfl, hx⟩
  refine ⟨_, rfl, hFi.then0 hx, ?_⟩
  replace hFi := hFi.then0 hx
  clear hx
  simp only [Act.put, List.setIfInBounds_toArray, List.set_cons_succ, List.set_cons_zero]
  refine Held.Walk.callIf 32 #[.int .i64 8, .string ⟨#[98]⟩] (by kernel_rfl) (by kernel_rfl) (by go_simp) ?_
  refine (H2.out _).mono ?_
  rintro e w' ⟨rfl, hx⟩
  refine ⟨_, rfl, hFi.then0 hx, ?_⟩
  replace hFi := hFi.then0 hx
  clear hx
  simp only [Act.put, List.setIfInBounds_toArray, List.set_cons_succ, List.set_cons_zero]
  refine Held.Walk.callIf 34 #[.int .i64 8, .string X, .string Y] (by kernel_rfl) (by kernel_rfl) (by go_simp) ?_
  refine (H3.out _).mono ?_
  rintro e w' ⟨rfl, hx⟩
  refine ⟨_, rfl, hFi.then0 hx, ?_⟩
  replace hFi := hFi.then0 hx
  clear hx
  simp only [Act.put, List.setIfInBounds_toArray, List.set_cons_succ, List.set_cons_zero]
  refine Held.Walk.valueIf (.slice (some ⟨w'.heap.size, 0, none⟩) 1 1) (w'.alloc (.cells #[.string Z] 9)) (by kernel_rfl) (by kernel_rfl) (by go_simp) (hFi.alloc _) ?_
  simp only [Act.put, List.setIfInBounds_toArray, List.set_cons_succ, List.set_cons_zero]
  have hz := (Has.new w' #[.string Z] 9 (fun _ => .string Z) 1 rfl (fun i hi => by obtain rfl : i = 0 := (by omega); rfl)).sl 0 1 (by omega)
  replace hFi := hFi.alloc (.cells #[.string Z] 9)
  refine Held.Walk.callIf 38 #[.int .i64 8, .int .u64 2, .slice (some ⟨w'.heap.size, 0, none⟩) 1 1] (by kernel_rfl) (by kernel_rfl) (by go_simp) ?_
  refine (H4.out _ _ hz).mono ?_
  rintro e w3 ⟨rfl, hx⟩
  refine ⟨_, rfl, hFi.then0 hx, ?_⟩
  replace hFi := hFi.then0 hx
  clear hx
  simp only [Act.put, List.setIfInBounds_toArray, List.set_cons_succ, List.set_cons_zero]
  refine Held.Walk.takeIf (.bool true) (by kernel_rfl) (by kernel_rfl) (by kernel_rfl) (by kernel_rfl) (fun w' hw' => by go_simp) hFi ?_
  simp only [Act.put, List.setIfInBounds_toArray, List.set_cons_succ, List.set_cons_zero]
  refine Held.Walk.take (.bool true) (by kernel_rfl) (by kernel_rfl) (by kernel_rfl) rfl (fun w' hw' => by go_simp) hFi ?_
  simp only [Act.put, List.setIfInBounds_toArray, List.set_cons_succ, List.set_cons_zero]
  refine Held.Walk.take (.bool true) (by kernel_rfl) (by kernel_rfl) (by kernel_rfl) rfl (fun w' hw' => by go_simp) hFi ?_
  simp only [Act.put, List.setIfInBounds_toArray, List.set_cons_succ, List.set_cons_zero]
  refine Held.Walk.nil (by kernel_rfl) ?_
  go_wp2
  go_ret
  exact ⟨rfl, hF.then0 hFi⟩

end Go.Proofs.YtldiecblcnoleaaDoor.Plain
