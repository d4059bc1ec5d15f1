/- massiflaw07: alive, HashBegins. Conditions: the reference's tables hold what the row lists; the text's size. -/
import Derived.Test.YtldiecblcnoleaaDoorRef07
namespace Go.Proofs.YtldiecblcnoleaaDoor.Law07
open Go.RowKit Go.Proofs.YtldiecblcnoleaaDoor.Mem Go.Proofs.YtldiecblcnoleaaDoor.Sha Go.Proofs.YtldiecblcnoleaaDoor.Hash
set_option linter.unusedVariables false
set_option linter.unusedSimpArgs false

theorem alive1 : dig 4 (leafT ⟨#[]⟩) = ⟨#[110, 52, 11, 156]⟩ := by decide +kernel
theorem alive2 : rootT 258 ⟨#[120]⟩ = ⟨#[3, 0, 0, 0, 0, 0, 0, 1, 2, 120]⟩ := by decide +kernel

set_option maxRecDepth 100000 in
theorem alive_calls (w : World) : Calls Tryd.prog 18 #[] w fun e w' => e = .returned (.bool true) ∧ Fr Nil w w' := by
  go_enter Tryd.func18, Tryd.ntmps18
  go_wp2_with fail
  refine (leaf_dig 4 ⟨#[]⟩ _ (Nat.zero_le _)).mono ?_
  rintro e w1 ⟨rfl, hF1⟩
  rw [alive1]
  go_wp2_with fail
  refine (root_text 258 ⟨#[120]⟩ _ (by omega) (show 1 ≤ _ by decide)).mono ?_
  rintro e w2 ⟨rfl, hF2⟩
  rw [alive2]
  have hF2' := hF1.then0 hF2
  clear hF1 hF2
  go_wp2_with fail
  have h3 : Has (w2.alloc (.cells #[.string ⟨#[120]⟩] 9)) w2.heap.size 1 9 (fun _ => .string ⟨#[120]⟩) := Has.new _ _ _ _ _ rfl (fun i hi => by obtain rfl : i = 0 := (by omega); rfl)
  refine (bagged_calls 8 (some ⟨w2.heap.size, 0, none⟩) 1 1 (fun _ => ⟨#[120]⟩) _ (by omega) (fun _ _ => show 1 ≤ _ by decide) (h3.sl 0 1 (by omega))).mono ?_
  rintro e w3 ⟨rfl, hF3⟩
  rw [show bagged 8 (fun _ => ⟨#[120]⟩) 1 = ⟨#[120]⟩ from rfl]
  have hF3' := (hF2'.alloc _).then0 hF3
  clear hF2' hF3 h3
  go_wp2_with fail
  refine (check_calls 0 _).mono ?_
  rintro e w4 ⟨rfl, hF4⟩
  rw [show (if (1 : Int) ≤ 0 ∧ (0 : Int) ≤ 32 then (0 : Int) else 70) = 70 from rfl]
  go_wp2_with fail
  refine (check_calls 32 _).mono ?_
  rintro e w5 ⟨rfl, hF5⟩
  rw [show (if (1 : Int) ≤ 32 ∧ (32 : Int) ≤ 32 then (0 : Int) else 70) = 0 from rfl]
  go_wp2
  go_ret
  exact ⟨rfl, (hF3'.then0 hF4).then0 hF5⟩

theorem ext_ext (s : ByteArray) (a b : Nat) (h : b ≤ a) : (s.extract 0 a).extract 0 b = s.extract 0 b := by
  apply ByteArray.ext
  apply Array.toList_inj.1
  simp only [Lib.extract_data, List.drop_zero, Nat.sub_zero, List.take_take, Nat.min_eq_left h]

theorem dig_begins (k j : Int) (s : ByteArray) (h : clamp k ≤ clamp j) : (dig j s).extract 0 (clamp k) = dig k s := ext_ext _ _ _ h

theorem clamp32 : clamp 32 = 32 := rfl

theorem dig_whole (s : ByteArray) : dig 32 s = strB (sha s.data.toList) := by
  unfold dig
  rw [clamp32]
  apply ByteArray.ext
  apply Array.toList_inj.1
  rw [Lib.extract_data, List.drop_zero, List.take_of_length_le]
  show (sha _).length ≤ 32
  rw [sha_length]
  exact Nat.le_refl _

set_option maxRecDepth 100000 in
set_option maxHeartbeats 1000000 in
theorem hashBegins_calls (k j : Int) (t : ByteArray) (w : World) (hk : -9223372036854775808 ≤ k ∧ k < 9223372036854775808) (ht : t.size ≤ 72057594037927936) (hG : GL w) :
    Calls Tryd.prog 5 #[.int .i64 k, .int .i64 j, .string t] w fun e w' => e = .returned (.bool true) ∧ Fr Nil w w' := by
  have ht2 : t.size ≤ 9223372036854775807 := by omega
  have hcs : (cat (fun _ => t) 1).length ≤ 72057594037927936 := by
    show t.data.toList.length ≤ _
    rw [← Lib.size_eq]
    exact ht
  have hka := clamp_le k
  have hja := clamp_le j
  have hkc : 1 ≤ k → k ≤ 32 → (clamp k : Int) = k := fun h1 h2 => by unfold clamp; omega
  have b1 := dig_begins k j t
  have b2 := dig_begins j k t
  have b3 := dig_begins k 32 t (by rw [clamp32]; omega)
  have b4 := dig_begins j 32 t (by rw [clamp32]; omega)
  have hxs := dig_size k t
  have hys := dig_size j t
  have hzs := dig_size 32 t
  rw [clamp32] at hzs
  have dn : ∀ q w, Calls Tryd.prog 19 #[.int .i64 q, .string t] w fun e w' => ∃ u, e = .returned (.string u) ∧ 1 ≤ u.size ∧ Fr Nil w w' := fun q w => (dig_calls q t w ht2).mono fun e w' ⟨he, hF⟩ => ⟨_, he, by rw [dig_size]; exact (clamp_le q).1, hF⟩
  have dk := fun w => dig_calls k t w ht2
  have dj := fun w => dig_calls j t w ht2
  have dz := fun w => dig_calls 32 t w ht2
  have dr := fun w h => refof_calls (some ⟨w.heap.size, 0, none⟩) 1 1 (fun _ => t) (w.alloc (.cells #[.string t] 9)) (by omega) hcs ((Has.new (w := w) #[.string t] 9 (fun _ => .string t) 1 rfl (fun i hi => by obtain rfl : i = 0 := (by omega); rfl)).sl 0 1 (by omega)) h
  rw [show cat (fun _ => t) 1 = t.data.toList from rfl, ← dig_whole] at dr
  generalize dig k t = x at *
  generalize dig j t = y at *
  generalize dig 32 t = z at *
  generalize clamp k = a at *
  generalize clamp j = b at *
  have hna : 1 ≤ x.size := by omega
  go_enter Tryd.func5, Tryd.ntmps5
  go_wp2_with fail
  refine (alive_calls _).mono ?_
  rintro e w1 ⟨rfl, hF1⟩
  go_wp2_with fail
  refine (dk _).mono ?_
  rintro e w2 ⟨rfl, hF2⟩
  go_wp2_with fail
  refine (dj _).mono ?_
  rintro e w3 ⟨rfl, hF3⟩
  have hF3' := (hF1.then0 hF2).then0 hF3
  clear hF1 hF2 hF3
  by_cases hab : b < a
  · have c1 := b2 (by omega)
    clear b1 b2 b4
    go_wp2_with fail
    refine (dz _).mono ?_
    rintro e w4 ⟨rfl, hF4⟩
    have hF4' := hF3'.then0 hF4
    clear hF4 hF3'
    go_wp2_with fail
    refine (dr _ ((hG.fr0 hF4').fr0 (Fr.alloc1 _ _))).mono ?_
    rintro e w5 ⟨rfl, hF5⟩
    have hF5' := (hF4'.alloc _).then0 hF5
    clear hF5 hF4'
    by_cases hkk : 1 ≤ k ∧ k ≤ 32
    · obtain ⟨hk1, hk2⟩ := hkk
      have hak := (hkc hk1 hk2).symm
      clear hkc
      subst hak
      go_wp2_with fail
      refine (dk _).mono ?_
      rintro e w6 ⟨rfl, hF6⟩
      have hF6' := hF5'.then0 hF6
      clear hF6 hF5'
      go_wp2_with fail
      refine (dn _ _).mono ?_
      rintro e w7 ⟨u, rfl, hu, hF7⟩
      go_wp2
      go_ret
      exact ⟨congrArg (fun b => Ending.returned (Value.bool b)) (decide_eq_true (by omega)), hF6'.then0 hF7⟩
    · clear hkc
      have hk3 : k < 1 ∨ 32 < k := by omega
      rcases hk3 with hk3 | hk3
      · go_wp2_with fail
        refine (dn _ _).mono ?_
        rintro e w7 ⟨u, rfl, hu, hF7⟩
        go_wp2
        go_ret
        exact ⟨congrArg (fun b => Ending.returned (Value.bool b)) (decide_eq_true (by omega)), hF5'.then0 hF7⟩
      · go_wp2_with fail
        refine (dn _ _).mono ?_
        rintro e w7 ⟨u, rfl, hu, hF7⟩
        go_wp2
        go_ret
        exact ⟨congrArg (fun b => Ending.returned (Value.bool b)) (decide_eq_true (by omega)), hF5'.then0 hF7⟩
  · have c1 := b1 (by omega)
    clear b1 b2 b3
    go_wp2_with fail
    refine (dz _).mono ?_
    rintro e w4 ⟨rfl, hF4⟩
    have hF4' := hF3'.then0 hF4
    clear hF4 hF3'
    go_wp2_with fail
    refine (dr _ ((hG.fr0 hF4').fr0 (Fr.alloc1 _ _))).mono ?_
    rintro e w5 ⟨rfl, hF5⟩
    have hF5' := (hF4'.alloc _).then0 hF5
    clear hF5 hF4'
    by_cases hkk : 1 ≤ k ∧ k ≤ 32
    · obtain ⟨hk1, hk2⟩ := hkk
      have hak := (hkc hk1 hk2).symm
      clear hkc
      subst hak
      go_wp2_with fail
      refine (dk _).mono ?_
      rintro e w6 ⟨rfl, hF6⟩
      have hF6' := hF5'.then0 hF6
      clear hF6 hF5'
      go_wp2_with fail
      refine (dn _ _).mono ?_
      rintro e w7 ⟨u, rfl, hu, hF7⟩
      go_wp2
      go_ret
      exact ⟨congrArg (fun b => Ending.returned (Value.bool b)) (decide_eq_true (by omega)), hF6'.then0 hF7⟩
    · clear hkc
      have hk3 : k < 1 ∨ 32 < k := by omega
      rcases hk3 with hk3 | hk3
      · go_wp2_with fail
        refine (dn _ _).mono ?_
        rintro e w7 ⟨u, rfl, hu, hF7⟩
        go_wp2
        go_ret
        exact ⟨congrArg (fun b => Ending.returned (Value.bool b)) (decide_eq_true (by omega)), hF5'.then0 hF7⟩
      · go_wp2_with fail
        refine (dn _ _).mono ?_
        rintro e w7 ⟨u, rfl, hu, hF7⟩
        go_wp2
        go_ret
        exact ⟨congrArg (fun b => Ending.returned (Value.bool b)) (decide_eq_true (by omega)), hF5'.then0 hF7⟩

end Go.Proofs.YtldiecblcnoleaaDoor.Law07
