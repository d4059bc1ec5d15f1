/- The reference's layer 8: Tree, Root. Conditions: the list can be read; sizes; the reference's tables. -/
import Derived.Test.YtldiecblcnoleaaDoorRefM08
namespace Go.Proofs.YtldiecblcnoleaaDoor.Plain
open Go.RowKit Go.Proofs.YtldiecblcnoleaaDoor.Mem Go.Proofs.YtldiecblcnoleaaDoor.Sha Go.Proofs.YtldiecblcnoleaaDoor.Hash
set_option linter.unusedVariables false
set_option linter.unusedSimpArgs false

set_option maxRecDepth 100000 in
set_option maxHeartbeats 1000000 in
theorem rtreeOf_calls (k : Int) (A : Option Addr) (n cap : Nat) (f : Nat → ByteArray) (H : Int) (K : Nat) (w : World) (hn : n ≤ 4398046511104) (hc : n ≤ cap) (hc2 : cap ≤ 9223372036854775807) (hs : ∀ i, i < n → (f i).size ≤ 9007199254740992) (hA : SlAt w A n (fun i => .string (f i))) (hK : K < 18446744073709551616) (hG : GL w) :
    Calls Tryd.prog 48 #[.int .i64 k, .slice A n cap, .agg #[.int .i64 H, .int .u64 (K : Int)]] w fun e w' => e = .returned (.tuple #[.string (treeOf k f n H K), .bool (isTree n H K)]) ∧ Fr Nil w w' := by
  by_cases hH : 0 ≤ H ∧ H ≤ 40
  · obtain ⟨h, rfl⟩ : ∃ h : Nat, H = h := ⟨H.toNat, by omega⟩
    have d1 : decide ((h : Int) < 0) = false := decide_eq_false (by omega)
    have d2 : decide ((h : Int) > 40) = false := decide_eq_false (by omega)
    have h00 : 0 ≤ (h : Int) := by omega
    obtain ⟨M, hM⟩ : ∃ M : Nat, M = n / 2 ^ h := ⟨n / 2 ^ h, rfl⟩
    obtain ⟨P, hP⟩ : ∃ P, 2 ^ h = P := ⟨_, rfl⟩
    have hP0 : 0 < P := by rw [← hP]; exact Nat.two_pow_pos h
    have hP40 : P ≤ 1099511627776 := by rw [← hP]; exact Nat.pow_le_pow_right (n := 2) (j := 40) (by decide) (by omega)
    have hMP : M = n / P := by rw [← hP]; exact hM
    have HM := Lib.hid hM
    have HP := Lib.hid hP
    have HMP := Lib.hid hMP
    by_cases hlt : K < M
    · obtain ⟨lo, hlo⟩ : ∃ lo, K * P = lo := ⟨_, rfl⟩
      have hin : lo + P ≤ n := by
        have h1 : (K + 1) * P ≤ n := by
          have h2 : K + 1 ≤ n / P := by rw [← hMP]; omega
          exact Nat.le_trans (Nat.mul_le_mul_right _ h2) (Nat.div_mul_le_self n P)
        rw [Nat.add_mul, hlo] at h1
        omega
      have hw : ∀ x : Int, IntKind.u64.wrap x = x % 18446744073709551616 := fun _ => rfl
      have hKb : K < 4398046511105 := by
        have : K * 1 ≤ K * P := Nat.mul_le_mul_left _ hP0
        omega
      have e1 : (K : Int) * (P : Int) = (lo : Int) := by rw [← hlo, Int.natCast_mul]
      have e2 : ((K : Int) + 1) * (P : Int) = (lo : Int) + P := by rw [Int.add_mul, e1]; omega
      have l1 : IntKind.u64.wrap ((K : Int) * P) = (lo : Int) := by rw [e1, hw]; omega
      have l2 : IntKind.u64.wrap (((K : Int) + 1) * P) = (lo : Int) + P := by rw [e2, hw]; omega
      have hdiv : (n : Int) / P = (M : Int) := by rw [hMP, Int.natCast_ediv]
      have hMK : ¬ ((M : Int) - 1 < K) := by omega
      have hPn : ¬ (n < P) := by omega
      have hMn : M ≤ n := by rw [hMP]; exact Nat.div_le_self n P
      have hit : isTree n (h : Int) K = true := decide_eq_true ⟨h00, by omega, by rw [Int.toNat_natCast, ← hM]; exact hlt⟩
      have hto : treeOf k f n (h : Int) K = treeD k f h lo := by unfold treeOf; rw [if_pos hit, Int.toNat_natCast, hP, hlo]
      rw [hit, hto]
      clear hit hto hlo hP hw hM hMP
      obtain ⟨b, o, rfl, hbw, hcell⟩ := hA.at (by omega)
      have htree : ∀ w', Fr Nil w w' → Calls Tryd.prog 70 #[.int .i64 k, .slice (some ⟨b, o + lo, none⟩) P (cap - lo)] w' fun e w'' => e = .returned (.string (treeD k f h lo)) ∧ Fr Nil w' w'' := fun w' hFx => by
        have := rtree_calls k h P b (o + lo) (cap - lo) (fun i => f (lo + i)) w' HP.out.symm (by omega) (by omega) (by omega) (fun i hi => hs _ (by omega)) (Nat.lt_of_lt_of_le hbw hFx.size) (fun i hi => by
          rw [hFx.cell (p := ⟨b, o + lo + i, none⟩) hbw (fun h => h), Nat.add_assoc]; exact hcell _ (by omega)) (hG.fr0 hFx)
        rw [treeD_shift, Nat.add_zero] at this
        exact this
      generalize treeD k f h lo = X at *
      have HT := Lib.hid htree
      have HL1 := Lib.hid l1
      have HL2 := Lib.hid l2
      have HD := Lib.hid hdiv
      have HE1 := Lib.hid e1
      have HE2 := Lib.hid e2
      clear hcell hA htree hs l1 l2 hdiv e1 e2
      have hcl : ¬ (cap = lo) := by omega
      have hcb := Has.new w #[.int .i64 (h : Int), .int .u64 (K : Int)] 52 (fun i => if i = 0 then .int .i64 (h : Int) else .int .u64 (K : Int)) 2 rfl (fun i hi => by
        have e : i = 0 ∨ i = 1 := by omega
        rcases e with rfl | rfl <;> rfl)
      have hF := Fr.alloc1 w (.cells #[.int .i64 (h : Int), .int .u64 (K : Int)] 52)
      go_enter Tryd.func48, Tryd.ntmps48
      go_wp2_with fail
      generalize w.alloc (.cells #[.int .i64 (h : Int), .int .u64 (K : Int)] 52) = w1 at *
      have c0 : w1.cell? ⟨w.heap.size, 0, none⟩ = some (.int .i64 (h : Int)) := hcb.cell 0 (by omega)
      have c1 : w1.cell? ⟨w.heap.size, 1, none⟩ = some (.int .u64 (K : Int)) := hcb.cell 1 (by omega)
      go_loop [8, 9] (fun v8 v9 => ∃ i R : Nat, i ≤ h ∧ v9 = .int .i64 i ∧ v8 = .int .u64 R ∧ Hid (R = 2 ^ i) ∧ R ≤ P) (fun _ v => h - (intOf v).toNat)
      case atStart => exact ⟨0, 1, Nat.zero_le _, rfl, rfl, rfl, by omega⟩
      case round =>
        obtain ⟨i, R, hi, rfl, rfl, HR, hRP⟩ := hrel
        by_cases hih : i < h
        · go_wp2_with fail
          refine ⟨⟨i + 1, 2 * R, by omega, by go_num, congrArg (Value.int .u64) (by omega), ?_, ?_⟩, by simp [intOf]; omega⟩
          · show 2 * R = 2 ^ (i + 1)
            rw [HR.out, Nat.pow_succ, Nat.mul_comm]
          · rw [HR.out, ← HP.out, Nat.mul_comm, ← Nat.pow_succ]
            exact Nat.pow_le_pow_right (by decide) hih
        · have hih2 : i = h := by omega
          have hRP2 : R = P := by rw [HR.out, hih2, HP.out]
          subst hih2
          subst hRP2
          have hdiv := HD.out
          go_wp2_with fail
          have hM1 : 0 < M := by omega
          refine QTail.quiet (fun w' => ∃ n, w' = w1.drewN n) (by kernel_rfl) (by kernel_rfl) ⟨1, rfl⟩ ?_
          repeat (first | go_big_quiet_step (fail) | quiet_step (fail))
          refine wpQuiet_nil ?_
          rintro _ ⟨x, rfl⟩
          replace hF := hF.drewN x
          replace hcb := hcb.drewN x
          clear c0 c1
          generalize w1.drewN x = w2 at *
          have c0 : w2.cell? ⟨w.heap.size, 0, none⟩ = some (.int .i64 (i : Int)) := hcb.cell 0 (by omega)
          have c1 : w2.cell? ⟨w.heap.size, 1, none⟩ = some (.int .u64 (K : Int)) := hcb.cell 1 (by omega)
          have l1 := HL1.out
          have l2 := HL2.out
          have e1 := HE1.out
          have e2 := HE2.out
          have hlen : lo + R - lo = R := by omega
          have hto : ((lo : Int) + R).toNat = lo + R := by omega
          go_wp2_with fail
          refine (HT.out _ hF).mono ?_
          rintro e w3 ⟨rfl, hx⟩
          go_wp2
          go_ret2
          exact ⟨rfl, hF.then0 hx⟩
    · have hMK : (M : Int) - 1 < K := by omega
      have hit : isTree n (h : Int) K = false := decide_eq_false (fun hh => by have := hh.2.2; rw [Int.toNat_natCast, ← hM] at this; omega)
      have hto : treeOf k f n (h : Int) K = ⟨#[]⟩ := by unfold treeOf; rw [hit]; rfl
      have hdiv : (n : Int) / P = (M : Int) := by rw [hMP, Int.natCast_ediv]
      have hMn : M ≤ n := by rw [hMP]; exact Nat.div_le_self n P
      have hM0 : P ≤ n → 0 < M := fun h => by rw [hMP]; exact Nat.div_pos h hP0
      rw [hit, hto]
      have HD := Lib.hid hdiv
      have HM0 := Lib.hid hM0
      clear hit hto hA hs hM hMP hP hdiv hM0
      have hcb := Has.new w #[.int .i64 (h : Int), .int .u64 (K : Int)] 52 (fun i => if i = 0 then .int .i64 (h : Int) else .int .u64 (K : Int)) 2 rfl (fun i hi => by
        have e : i = 0 ∨ i = 1 := by omega
        rcases e with rfl | rfl <;> rfl)
      have hF := Fr.alloc1 w (.cells #[.int .i64 (h : Int), .int .u64 (K : Int)] 52)
      go_enter Tryd.func48, Tryd.ntmps48
      go_wp2_with fail
      generalize w.alloc (.cells #[.int .i64 (h : Int), .int .u64 (K : Int)] 52) = w1 at *
      have c0 : w1.cell? ⟨w.heap.size, 0, none⟩ = some (.int .i64 (h : Int)) := hcb.cell 0 (by omega)
      have c1 : w1.cell? ⟨w.heap.size, 1, none⟩ = some (.int .u64 (K : Int)) := hcb.cell 1 (by omega)
      go_loop [8, 9] (fun v8 v9 => ∃ i R : Nat, i ≤ h ∧ v9 = .int .i64 i ∧ v8 = .int .u64 R ∧ Hid (R = 2 ^ i) ∧ R ≤ P) (fun _ v => h - (intOf v).toNat)
      case atStart => exact ⟨0, 1, Nat.zero_le _, rfl, rfl, rfl, by omega⟩
      case round =>
        obtain ⟨i, R, hi, rfl, rfl, HR, hRP⟩ := hrel
        by_cases hih : i < h
        · go_wp2_with fail
          refine ⟨⟨i + 1, 2 * R, by omega, by go_num, congrArg (Value.int .u64) (by omega), ?_, ?_⟩, by simp [intOf]; omega⟩
          · show 2 * R = 2 ^ (i + 1)
            rw [HR.out, Nat.pow_succ, Nat.mul_comm]
          · rw [HR.out, ← HP.out, Nat.mul_comm, ← Nat.pow_succ]
            exact Nat.pow_le_pow_right (by decide) hih
        · have hih2 : i = h := by omega
          have hRP2 : R = P := by rw [HR.out, hih2, HP.out]
          subst hih2
          subst hRP2
          by_cases hPn : n < R
          · go_wp2_with fail
            refine QTail.quiet (fun w' => ∃ n, w' = w1.drewN n) (by kernel_rfl) (by kernel_rfl) ⟨1, rfl⟩ ?_
            repeat (first | go_big_quiet_step (fail) | quiet_step (fail))
            refine wpQuiet_nil ?_
            rintro _ ⟨x, rfl⟩
            go_wp2
            go_ret2
            exact ⟨rfl, hF.drewN x⟩
          · have hdiv := HD.out
            have hM1 := HM0.out (by omega)
            go_wp2_with fail
            refine QTail.quiet (fun w' => ∃ n, w' = w1.drewN n) (by kernel_rfl) (by kernel_rfl) ⟨1, rfl⟩ ?_
            repeat (first | go_big_quiet_step (fail) | quiet_step (fail))
            refine wpQuiet_nil ?_
            rintro _ ⟨x, rfl⟩
            go_wp2
            go_ret2
            exact ⟨rfl, hF.drewN x⟩
  · have hit : isTree n H K = false := decide_eq_false (fun hh => hH ⟨hh.1, hh.2.1⟩)
    have hto : treeOf k f n H K = ⟨#[]⟩ := by unfold treeOf; rw [hit]; rfl
    rw [hit, hto]
    clear hit hto hA hs
    have hcmp : decide (H < 0) = true ∨ (decide (H < 0) = false ∧ decide (H > 40) = true) := by
      rcases Int.lt_or_le H 0 with h | h
      · exact .inl (decide_eq_true h)
      · exact .inr ⟨decide_eq_false (by omega), decide_eq_true (by omega)⟩
    rcases hcmp with d1 | ⟨d1, d2⟩
    all_goals
      clear hH
      go_enter Tryd.func48, Tryd.ntmps48
      go_wp2
      go_ret2
      exact ⟨rfl, Fr.alloc1 _ _⟩

set_option maxRecDepth 100000 in
set_option maxHeartbeats 1000000 in
theorem rroot_calls (k : Int) (A : Option Addr) (n cap : Nat) (f : Nat → ByteArray) (z : Nat) (w : World) (hn : n ≤ 4398046511104) (hc : n ≤ cap) (hc2 : cap ≤ 9223372036854775807) (hs : ∀ i, i < n → (f i).size ≤ 9007199254740992) (hA : SlAt w A n (fun i => .string (f i))) (hz : z < 18446744073709551616) (hG : GL w) :
    Calls Tryd.prog 50 #[.int .i64 k, .slice A n cap, .int .u64 (z : Int)] w fun e w' => e = .returned (.tuple #[rootV (rootN k n z) (rootD k f n z), .int .i64 (rootE k n z)]) ∧ Fr Nil w w' := by
  by_cases hk : 1 ≤ k ∧ k ≤ 32
  · by_cases hzn : z ≤ n
    · have hE : rootE k n z = 0 := by unfold rootE; rw [if_pos hk, if_pos hzn]
      have hN : rootN k n z = z := by unfold rootN; rw [if_pos hE]
      have hD : rootD k f n z = rootOf k f z := by unfold rootD; rw [if_pos hE]
      rw [hE, hN, hD]
      clear hE hN hD
      unfold rootOf
      have hsm := peaksL_small k f z 0 z
      have hfew := peaksL_few k f z 0 z
      have hpk : ∀ w', Fr Nil w w' → _ := fun w' (hF : Fr Nil w w') => rpeaks_calls k A z cap f w' (by omega) (by omega) hc2 (fun i hi => hs i (by omega)) (SlAt.take (hA.fr hF) z hzn) (hG.fr0 hF)
      obtain ⟨L, hL⟩ : ∃ L, peaksL k f z 0 z = L := ⟨_, rfl⟩
      rw [hL] at hsm hfew hpk ⊢
      have HP := Lib.hid hpk
      have HS := Lib.hid hsm
      clear hL hpk hsm hA hs
      go_enter Tryd.func50, Tryd.ntmps50
      go_wp2_with (refine wpList_alloc rfl 56 rfl 2 56 _ (alloc_root _) ?_; intro w2 hR hF hz2)
      refine (rcheck_calls k _).mono ?_
      rintro e w3 ⟨rfl, hx⟩
      rw [if_pos hk]
      replace hR := hx.has hR (fun h => h)
      replace hF := hF.then0 hx
      clear hx hk
      go_wp2_with fail
      refine (HP.out _ hF).mono ?_
      rintro e w4 ⟨V, rfl, hO, hx⟩
      replace hR := hx.has hR (fun h => h)
      replace hF := hF.then0 hx
      obtain ⟨B, cap2, rfl, _, hcap2, hSl, _⟩ := Own.sl hO
      clear hx hO HP
      go_wp2_with fail
      refine (rroot_dig k z B L.length cap2 (listF L) _ hz (by omega) (fun i hi => Nat.le_trans (listF_small HS.out i) (by decide)) hSl (hG.fr0 hF)).mono ?_
      rintro e w5 ⟨rfl, hx⟩
      replace hR := hx.has hR (fun h => h)
      replace hF := hF.then0 hx
      obtain ⟨D, hD⟩ : ∃ D, dig k (rootT z (bagged k (listF L) L.length)) = D := ⟨_, rfl⟩
      rw [hD]
      have HD := Lib.hid hD
      clear hD
      clear hx hSl HS
      go_wp2_with (refine wpList_store_has hR rfl 56 _ _ rfl 0 2 (rootF z D) rfl rfl (by omega) rfl (fun _ _ => rootF_one _ _ _) ?_; intro w6 hR6 hF6)
      refine bodyPost_ret (results_ct rfl _ rfl (hR6.congr (g := rootF z D) fun i hi => by rw [if_pos (by omega)]; rfl) Tryd.underlying56 rfl rfl) rfl ?_
      rw [HD.out]
      exact ⟨rfl, hF.then1 hF6 (.inl (Nat.le_refl _))⟩
    · have hE : rootE k n z = 30 := by unfold rootE; rw [if_pos hk, if_neg hzn]
      have hN : rootN k n z = 0 := by unfold rootN; rw [hE]; rfl
      have hD : rootD k f n z = ⟨#[]⟩ := by unfold rootD; rw [hE]; rfl
      rw [hE, hN, hD]
      clear hE hN hD hA hs
      go_enter Tryd.func50, Tryd.ntmps50
      go_wp2_with (refine wpList_alloc rfl 56 rfl 2 56 _ (alloc_root _) ?_; intro w2 hR hF hz2)
      refine (rcheck_calls k _).mono ?_
      rintro e w3 ⟨rfl, hx⟩
      rw [if_pos hk]
      replace hR := hx.has hR (fun h => h)
      replace hF := hF.then0 hx
      clear hx hk
      go_wp2_with (refine wpList_store_has hR rfl 56 _ _ rfl 0 2 (rootF 0 ⟨#[]⟩) rfl rfl (by omega) rfl (fun _ _ => rootF_one _ _ _) ?_; intro w6 hR6 hF6)
      refine bodyPost_ret (results_ct rfl _ rfl (hR6.congr (g := rootF 0 ⟨#[]⟩) fun i hi => by rw [if_pos (by omega)]; rfl) Tryd.underlying56 rfl rfl) rfl ?_
      exact ⟨rfl, hF.then1 hF6 (.inl (Nat.le_refl _))⟩
  · have hE : rootE k n z = 70 := by unfold rootE; rw [if_neg hk]
    have hN : rootN k n z = 0 := by unfold rootN; rw [hE]; rfl
    have hD : rootD k f n z = ⟨#[]⟩ := by unfold rootD; rw [hE]; rfl
    rw [hE, hN, hD]
    clear hE hN hD hA hs
    go_enter Tryd.func50, Tryd.ntmps50
    go_wp2_with (refine wpList_alloc rfl 56 rfl 2 56 _ (alloc_root _) ?_; intro w2 hR hF hz2)
    refine (rcheck_calls k _).mono ?_
    rintro e w3 ⟨rfl, hx⟩
    rw [if_neg hk]
    replace hR := hx.has hR (fun h => h)
    replace hF := hF.then0 hx
    clear hx hk
    go_wp2_with (refine wpList_store_has hR rfl 56 _ _ rfl 0 2 (rootF 0 ⟨#[]⟩) rfl rfl (by omega) rfl (fun _ _ => rootF_one _ _ _) ?_; intro w6 hR6 hF6)
    refine bodyPost_ret (results_ct rfl _ rfl (hR6.congr (g := rootF 0 ⟨#[]⟩) fun i hi => by rw [if_pos (by omega)]; rfl) Tryd.underlying56 rfl rfl) rfl ?_
    exact ⟨rfl, hF.then1 hF6 (.inl (Nat.le_refl _))⟩

end Go.Proofs.YtldiecblcnoleaaDoor.Plain
