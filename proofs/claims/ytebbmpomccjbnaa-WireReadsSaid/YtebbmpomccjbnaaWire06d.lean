/- The reference's reader: its Number. Condition: the reader stands within its text. -/
import Derived.Test.YtebbmpomccjbnaaWire06c
namespace Go.Proofs.Ytebbmpomccjbnaa.Wire
open Go.RowKit Go.Proofs.Ytebbmpomccjbnaa.Mem
set_option linter.unusedVariables false
set_option linter.unusedSimpArgs false

theorem rest_bad (t : ByteArray) (q : Nat) (x : Int) (h : x ≠ 0) : rest t q x = ⟨#[]⟩ := if_neg h

theorem rest_ok (t : ByteArray) (q k : Nat) (hq : q ≤ t.size) : (rest t q 0).extract k (rest t q 0).size = rest t (q + k) 0 := by
  unfold rest
  rw [if_pos rfl, if_pos rfl, ByteArray.extract_extract, ByteArray.size_extract]
  congr 1
  omega

theorem rest_get (t : ByteArray) (q i : Nat) (h : q + i < t.size) : ((rest t q 0).data.toList.getD i 0) = t[q + i] := by
  unfold rest
  rw [if_pos rfl, Lib.extract_data, List.getD_eq_getElem?_getD, List.getElem?_take, if_pos (by omega), List.getElem?_drop]
  have h2 : q + i < t.data.toList.length := by rw [← Lib.size_eq]; exact h
  rw [List.getElem?_eq_getElem h2]
  rfl

set_option maxRecDepth 100000 in
set_option maxHeartbeats 2000000 in
theorem rnum_calls (t : ByteArray) (q : Nat) (bad : Int) (w : World) (hq : q ≤ t.size) (ht : t.size ≤ 4611686018427387904) :
    Calls Try.prog 12 #[.agg #[.string t, .int .i64 (q : Int), .int .i64 bad]] w fun e w' => ∃ q' : Nat, q' ≤ t.size ∧
      e = .returned (.tuple #[.agg #[.string t, .int .i64 (q' : Int), .int .i64 (numE (rest t q bad) bad)], .int .u64 (numV (rest t q bad) bad : Int), .int .i64 (numE (rest t q bad) bad)]) ∧
      rest t q' (numE (rest t q bad) bad) = numS (rest t q bad) bad ∧ Fr Nil w w' := by
  go_enter Try.func12, Try.ntmps12
  have hb0 := ref_new t q bad w
  have hF0 := Fr.alloc1 w (.cells #[.string t, .int .i64 (q : Int), .int .i64 bad] 31)
  by_cases hbad : bad = 0
  · subst hbad
    have hV : numV (rest t q 0) 0 = if (numOf (rest t q 0)).1 = 0 then (numOf (rest t q 0)).2.1 else 0 := if_pos rfl
    have hE : numE (rest t q 0) 0 = (numOf (rest t q 0)).1 := if_pos rfl
    have hS : numS (rest t q 0) 0 = if (numOf (rest t q 0)).1 = 0 then (rest t q 0).extract (numOf (rest t q 0)).2.2 (rest t q 0).size else ⟨#[]⟩ := if_pos rfl
    have hrs := rest_size t q 0 hq rfl
    have hget := rest_get t q
    have hok := rest_ok t q
    obtain ⟨s, hs⟩ : ∃ s, rest t q 0 = s := ⟨_, rfl⟩
    simp only [hs] at hV hE hS hrs hok hget ⊢
    generalize numV s 0 = V at *
    generalize numE s 0 = E at *
    generalize numS s 0 = S' at *
    have HV := Lib.hid hV
    have HE := Lib.hid hE
    have HS := Lib.hid hS
    have HRS := Lib.hid hrs
    have HGET := Lib.hid hget
    have HOK := Lib.hid hok
    clear hV hE hS hs hrs hget hok
    go_wp2_with (refine wpList_alloc rfl 31 rfl 3 31 _ (alloc_ref _) ?_; intro w2 hA hFA hz; have hB := hFA.has hb0 (fun h => h); have c2 : w2.cell? ⟨w.heap.size, 2, none⟩ = some (.int .i64 0) := hB.cell 2 (by omega); have hA1 : Has w2 (w.heap.size + 1) 3 31 (refF ⟨#[]⟩ 0 0) := (by simpa using hA))
    have hF2 := hF0.then0 hFA
    have c0 : w2.cell? ⟨w.heap.size, 0, none⟩ = some (.string t) := hB.cell 0 (by omega)
    have c1 : w2.cell? ⟨w.heap.size, 1, none⟩ = some (.int .i64 q) := hB.cell 1 (by omega)
    have f1 := hB.free 1
    have f2 := hB.free 2
    clear hA hFA hz hb0 hF0
    go_loop [5, 6, 7] (fun v5 v6 v7 => ∃ i n M : Nat, i ≤ 9 ∧ n < 2 ^ (7 * i) ∧ v7 = .int .i64 i ∧ v5 = .int .u64 n ∧ v6 = .int .u64 M ∧ Hid (M = 128 ^ i) ∧ Hid (numOf s = num (10 - i) (s.data.toList.drop i) i n) ∧ q + i ≤ t.size) (fun _ _ v => 10 - (intOf v).toNat)
    case atStart => exact ⟨0, 0, 1, by omega, by simp, rfl, rfl, rfl, rfl, rfl, by omega⟩
    case round =>
      obtain ⟨i, n, M, hi, hn, rfl, rfl, rfl, HM, HN, his⟩ := hrel
      have hfail : ∀ x : Int, (numOf s).1 = x → x ≠ 0 → V = 0 ∧ E = x ∧ S' = ⟨#[]⟩ := fun x h h0 => by
        rw [HV.out, HE.out, HS.out, if_neg (by rw [h]; exact h0), if_neg (by rw [h]; exact h0)]
        exact ⟨rfl, h, rfl⟩
      by_cases hend : q + i = t.size
      · obtain ⟨rfl, rfl, rfl⟩ := hfail 60 (by
          rw [HN.out, show 10 - i = (9 - i) + 1 by omega, num_end (by rw [← Lib.size_eq, HRS.out]; omega)]) (by decide)
        have hge : decide ((q : Int) + i ≥ t.size) = true := decide_eq_true (by omega)
        go_wp2
        have hB3 : Has (w2.setCell ⟨w.heap.size, 2, none⟩ (.int .i64 60)) w.heap.size 3 31 (refF t q 60) := (hB.put 2 _).congr (fun i hi => by
          have e : i = 0 ∨ i = 1 ∨ i = 2 := by omega
          rcases e with rfl | rfl | rfl <;> rfl)
        have hA3 := hA1.far ⟨w.heap.size, 2, none⟩ (.int .i64 60) (by simp)
        have hF3 := hF2.setCell ⟨w.heap.size, 2, none⟩ (.int .i64 60) (.inl (Nat.le_refl _))
        clear hB hA1 hF2 c0 c1 c2 f1 f2
        generalize w2.setCell ⟨w.heap.size, 2, none⟩ (.int .i64 60) = w3 at *
        refine Flag.region (fun b w' => Has w' w.heap.size 3 31 (refF t q 60) ∧ Fr Nil w w' ∧ Has w' (w.heap.size + 1) 3 31 (if b then refF t q 60 else refF ⟨#[]⟩ 0 0)) 3 (by kernel_rfl) (by kernel_rfl) (by decide) ⟨hB3.drew, hF3.drew, hA3.drew⟩ ?_
        refine Flag.valF (by decide) rfl (aggF 3 (refF t q 60)) (fun b w' hw' => QTail.run_val rfl (run_load_cells _ _ w.heap.size 0 3 _ (fun i hi => by rw [Nat.zero_add]; exact hw'.1.cell i hi) Try.underlying31 rfl rfl)) ?_
        refine Flag.valF (by decide) rfl (.pointer (some ⟨w.heap.size, 2, none⟩)) (fun b w' hw' => by go_simp) ?_
        refine Flag.valF (by decide) rfl (.int .i64 60) (fun b w' hw' => by have c2 : w'.cell? ⟨w.heap.size, 2, none⟩ = some (.int .i64 60) := hw'.1.cell 2 (by omega); go_simp) ?_
        refine Flag.storeF rfl 31 _ _ rfl (w.heap.size + 1) 0 3 3 31 (refF ⟨#[]⟩ 0 0) (refF t q 60) rfl rfl (by omega) rfl (fun _ _ => refF_one _ _ _ _)
          (fun w' hw' => ⟨hw'.2.2, fun w'' h1 h2 => ⟨h2.has hw'.1 (by simp), hw'.2.1.then1 h2 (.inl (Nat.le_succ _)), h1.congr fun j hj => by rw [if_pos (by omega)]; rfl⟩⟩) ?_
        refine Flag.valF (by decide) rfl (.int .u64 0) (fun b w' hw' => by go_simp) ?_
        refine Flag.valF (by decide) rfl (.int .i64 60) (fun b w' hw' => by go_simp) ?_
        intro w9 hw9
        obtain ⟨hB9, hF9, hA9⟩ := hw9
        simp only [Act.put, List.setIfInBounds_toArray, List.set_cons_succ, List.set_cons_zero]
        go_wp2
        refine bodyPost_ret (results_ctt rfl _ rfl hA9 Try.underlying31 rfl rfl) rfl ?_
        exact ⟨q, hq, rfl, rest_bad t q 60 (by decide), hF9⟩
      · have hil : q + i < t.size := by omega
        have hge : decide ((q : Int) + i ≥ t.size) = false := decide_eq_false (by omega)
        have hstep := num_drop (l := s.data.toList) (i := i) (k := 9 - i) (n := n) (by rw [← Lib.size_eq, HRS.out]; omega)
        have hNN : numOf s = num (9 - i + 1) (s.data.toList.drop i) i n := by rw [HN.out, show 10 - i = (9 - i) + 1 by omega]
        rw [← hNN, HGET.out i hil] at hstep
        have hc256 : (t[q + i]'hil).toNat < 256 := (t[q + i]'hil).toBitVec.isLt
        obtain ⟨c, hc⟩ : ∃ c, (t[q + i]'hil).toNat = c := ⟨_, rfl⟩
        have hE1 : ∀ (v k : Nat), numOf s = (0, v, k) → V = v ∧ E = 0 ∧ S' = rest t (q + k) 0 := fun v k h => by
          rw [HV.out, HE.out, HS.out, h, ← HOK.out k hq]
          exact ⟨rfl, rfl, rfl⟩
        rw [hc] at hstep hc256
        have HSTEP := Lib.hid hstep
        clear hstep hNN HN hend
        have hform : (numOf s).1 = 61 → V = 0 ∧ E = 61 ∧ S' = ⟨#[]⟩ := fun h => hfail 61 h (by decide)
        have hpow : 2 ^ (7 * i) = 128 ^ i := by rw [Nat.pow_mul]
        have hmul : n + M * (c % 128) < 2 ^ (7 * (i + 1)) ∧ (i ≤ 8 → M ≤ 72057594037927936) ∧ M ≤ 9223372036854775808 ∧ n < 9223372036854775808 ∧ (i ≤ 8 ∨ c ≤ 1 → n + M * (c % 128) < 18446744073709551616) := by
          have h1 : M * (c % 128) ≤ M * 127 := Nat.mul_le_mul_left _ (by omega)
          have h2 : 2 ^ (7 * (i + 1)) = 128 * M := by rw [HM.out, Nat.pow_mul, Nat.pow_succ]; exact Nat.mul_comm _ _
          have h3 : n < M := by rw [HM.out, ← hpow]; exact hn
          have h4 : i ≤ 8 → M ≤ 72057594037927936 := fun h => by rw [HM.out]; exact Nat.pow_le_pow_right (by decide) h
          have h5 : M ≤ 9223372036854775808 := by rw [HM.out]; exact Nat.pow_le_pow_right (by decide) hi
          refine ⟨by omega, h4, h5, by omega, fun h => ?_⟩
          rcases h with h | h
          · have := h4 h; omega
          · have h6 : M * (c % 128) ≤ M * 1 := Nat.mul_le_mul_left _ (by omega)
            omega
        have hn' : n + c % 128 * 128 ^ i = n + M * (c % 128) := by rw [HM.out, Nat.mul_comm]
        have hprod : (M : Int) * ((c : Int) % 128) = ((M * (c % 128) : Nat) : Int) := by rw [Int.natCast_mul, Int.natCast_emod]; rfl
        rw [hn'] at HSTEP
        obtain ⟨hm1, hm2, hm3, hm4, hm5⟩ := hmul
        generalize M * (c % 128) = K at *
        clear hn' hpow hn hfail
        by_cases h9 : i = 9
        · have h9b : ((i : Int) == 9) = true := by rw [beq_iff_eq]; omega
          have hi0 : 0 < i := by omega
          by_cases hc1 : 1 < c
          · obtain ⟨rfl, rfl, rfl⟩ := hform (by rw [HSTEP.out, if_pos ⟨h9, hc1⟩])
            clear hE1 hform hm5 hm2 h9
            go_wp2
            have hB3 : Has (w2.setCell ⟨w.heap.size, 2, none⟩ (.int .i64 61)) w.heap.size 3 31 (refF t q 61) := (hB.put 2 _).congr (fun i hi => by
              have e : i = 0 ∨ i = 1 ∨ i = 2 := by omega
              rcases e with rfl | rfl | rfl <;> rfl)
            have hA3 := hA1.far ⟨w.heap.size, 2, none⟩ (.int .i64 61) (by simp)
            have hF3 := hF2.setCell ⟨w.heap.size, 2, none⟩ (.int .i64 61) (.inl (Nat.le_refl _))
            clear hB hA1 hF2 c0 c1 c2 f1 f2
            generalize w2.setCell ⟨w.heap.size, 2, none⟩ (.int .i64 61) = w3 at *
            refine Flag.region (fun b w' => Has w' w.heap.size 3 31 (refF t q 61) ∧ Fr Nil w w' ∧ Has w' (w.heap.size + 1) 3 31 (if b then refF t q 61 else refF ⟨#[]⟩ 0 0)) 3 (by kernel_rfl) (by kernel_rfl) (by decide) ⟨hB3.drew, hF3.drew, hA3.drew⟩ ?_
            refine Flag.valF (by decide) rfl (aggF 3 (refF t q 61)) (fun b w' hw' => QTail.run_val rfl (run_load_cells _ _ w.heap.size 0 3 _ (fun i hi => by rw [Nat.zero_add]; exact hw'.1.cell i hi) Try.underlying31 rfl rfl)) ?_
            refine Flag.valF (by decide) rfl (.pointer (some ⟨w.heap.size, 2, none⟩)) (fun b w' hw' => by go_simp) ?_
            refine Flag.valF (by decide) rfl (.int .i64 61) (fun b w' hw' => by have c2 : w'.cell? ⟨w.heap.size, 2, none⟩ = some (.int .i64 61) := hw'.1.cell 2 (by omega); go_simp) ?_
            refine Flag.storeF rfl 31 _ _ rfl (w.heap.size + 1) 0 3 3 31 (refF ⟨#[]⟩ 0 0) (refF t q 61) rfl rfl (by omega) rfl (fun _ _ => refF_one _ _ _ _)
              (fun w' hw' => ⟨hw'.2.2, fun w'' h1 h2 => ⟨h2.has hw'.1 (by simp), hw'.2.1.then1 h2 (.inl (Nat.le_succ _)), h1.congr fun j hj => by rw [if_pos (by omega)]; rfl⟩⟩) ?_
            refine Flag.valF (by decide) rfl (.int .u64 0) (fun b w' hw' => by go_simp) ?_
            refine Flag.valF (by decide) rfl (.int .i64 61) (fun b w' hw' => by go_simp) ?_
            intro w9 hw9
            obtain ⟨hB9, hF9, hA9⟩ := hw9
            simp only [Act.put, List.setIfInBounds_toArray, List.set_cons_succ, List.set_cons_zero]
            go_wp2
            refine bodyPost_ret (results_ctt rfl _ rfl hA9 Try.underlying31 rfl rfl) rfl ?_
            exact ⟨q, hq, rfl, rest_bad t q 61 (by decide), hF9⟩
          · have hc2 : decide (128 ≤ c) = false := decide_eq_false (by omega)
            by_cases hc0 : c = 0
            · obtain ⟨rfl, rfl, rfl⟩ := hform (by rw [HSTEP.out, if_neg (fun h => hc1 h.2), if_neg (by omega), if_pos ⟨hc0, hi0⟩])
              have hc0b : ((c : Int) == 0) = true := by rw [beq_iff_eq]; omega
              clear hE1 hform hm5 hm2 h9 hc2 hc0
              go_wp2
              have hB3 : Has (w2.setCell ⟨w.heap.size, 2, none⟩ (.int .i64 61)) w.heap.size 3 31 (refF t q 61) := (hB.put 2 _).congr (fun i hi => by
                have e : i = 0 ∨ i = 1 ∨ i = 2 := by omega
                rcases e with rfl | rfl | rfl <;> rfl)
              have hA3 := hA1.far ⟨w.heap.size, 2, none⟩ (.int .i64 61) (by simp)
              have hF3 := hF2.setCell ⟨w.heap.size, 2, none⟩ (.int .i64 61) (.inl (Nat.le_refl _))
              clear hB hA1 hF2 c0 c1 c2 f1 f2
              generalize w2.setCell ⟨w.heap.size, 2, none⟩ (.int .i64 61) = w3 at *
              refine Flag.region (fun b w' => Has w' w.heap.size 3 31 (refF t q 61) ∧ Fr Nil w w' ∧ Has w' (w.heap.size + 1) 3 31 (if b then refF t q 61 else refF ⟨#[]⟩ 0 0)) 3 (by kernel_rfl) (by kernel_rfl) (by decide) ⟨hB3.drew, hF3.drew, hA3.drew⟩ ?_
              refine Flag.valF (by decide) rfl (aggF 3 (refF t q 61)) (fun b w' hw' => QTail.run_val rfl (run_load_cells _ _ w.heap.size 0 3 _ (fun i hi => by rw [Nat.zero_add]; exact hw'.1.cell i hi) Try.underlying31 rfl rfl)) ?_
              refine Flag.valF (by decide) rfl (.pointer (some ⟨w.heap.size, 2, none⟩)) (fun b w' hw' => by go_simp) ?_
              refine Flag.valF (by decide) rfl (.int .i64 61) (fun b w' hw' => by have c2 : w'.cell? ⟨w.heap.size, 2, none⟩ = some (.int .i64 61) := hw'.1.cell 2 (by omega); go_simp) ?_
              refine Flag.storeF rfl 31 _ _ rfl (w.heap.size + 1) 0 3 3 31 (refF ⟨#[]⟩ 0 0) (refF t q 61) rfl rfl (by omega) rfl (fun _ _ => refF_one _ _ _ _)
                (fun w' hw' => ⟨hw'.2.2, fun w'' h1 h2 => ⟨h2.has hw'.1 (by simp), hw'.2.1.then1 h2 (.inl (Nat.le_succ _)), h1.congr fun j hj => by rw [if_pos (by omega)]; rfl⟩⟩) ?_
              refine Flag.valF (by decide) rfl (.int .u64 0) (fun b w' hw' => by go_simp) ?_
              refine Flag.valF (by decide) rfl (.int .i64 61) (fun b w' hw' => by go_simp) ?_
              intro w9 hw9
              obtain ⟨hB9, hF9, hA9⟩ := hw9
              simp only [Act.put, List.setIfInBounds_toArray, List.set_cons_succ, List.set_cons_zero]
              go_wp2
              refine bodyPost_ret (results_ctt rfl _ rfl hA9 Try.underlying31 rfl rfl) rfl ?_
              exact ⟨q, hq, rfl, rest_bad t q 61 (by decide), hF9⟩
            · obtain ⟨rfl, rfl, rfl⟩ := hE1 _ _ (by rw [HSTEP.out, if_neg (fun h => hc1 h.2), if_neg (by omega), if_neg (fun h => hc0 h.1)])
              have hc0b : ((c : Int) == 0) = false := by rw [beq_eq_false_iff_ne]; omega
              have hm6 := hm5 (.inr (by omega))
              clear hE1 hform hm5 hm2 h9 hc2 hc0
              have d0 := hA1.cell 0 (by omega)
              have d1 := hA1.cell 1 (by omega)
              have d2 := hA1.cell 2 (by omega)
              have g0 := hA1.free 0
              have g1 := hA1.free 1
              have g2 := hA1.free 2
              go_wp2
              refine bodyPost_ret (results_ctt rfl _ rfl (f := refF t (q + (i + 1)) 0) (b := w.heap.size + 1) (n := 3) (T := 31) ?_ Try.underlying31 rfl rfl) rfl ?_
              · exact (((hA1.far _ _ (by simp)).put 0 _).put 1 _).put 2 _ |>.congr fun i hi => by
                  have e : i = 0 ∨ i = 1 ∨ i = 2 := by omega
                  rcases e with rfl | rfl | rfl
                  · rfl
                  · show Value.int .i64 _ = Value.int .i64 _
                    exact congrArg _ (by omega)
                  · rfl
              · exact ⟨q + (i + 1), by omega, rfl, rfl, (((hF2.setCell ⟨w.heap.size, 1, none⟩ _ (.inl (Nat.le_refl _))).setCell ⟨w.heap.size + 1, 0, none⟩ _ (.inl (Nat.le_succ _))).setCell ⟨w.heap.size + 1, 1, none⟩ _ (.inl (Nat.le_succ _))).setCell ⟨w.heap.size + 1, 2, none⟩ _ (.inl (Nat.le_succ _))⟩
        · have h9b : ((i : Int) == 9) = false := by rw [beq_eq_false_iff_ne]; omega
          have hm6 := hm5 (.inl (by omega))
          have hm7 := hm2 (by omega)
          by_cases hcc : 128 ≤ c
          · rw [if_neg (fun h => h9 h.1), if_pos hcc] at HSTEP
            have hc0b : ((c : Int) == 0) = false := by rw [beq_eq_false_iff_ne]; omega
            clear hE1 hform hm5 hm2
            go_wp2_with fail
            all_goals
              refine ⟨⟨i + 1, n + K, M * 128, by omega, hm1, by go_num, congrArg (Value.int .u64) (by omega), congrArg (Value.int .u64) (by omega), ?_, ?_, by omega⟩, by simp [intOf]; omega⟩
              · show M * 128 = 128 ^ (i + 1)
                rw [HM.out, Nat.pow_succ]
              · show numOf s = num (10 - (i + 1)) _ _ _
                rw [HSTEP.out, show 10 - (i + 1) = 9 - i by omega]
          · by_cases hc0 : c = 0 ∧ 0 < i
            · obtain ⟨rfl, rfl, rfl⟩ := hform (by rw [HSTEP.out, if_neg (fun h => h9 h.1), if_neg hcc, if_pos hc0])
              have hc0b : ((c : Int) == 0) = true := by rw [beq_iff_eq]; omega
              have hi0 : 0 < i := hc0.2
              clear hE1 hform hm5 hm2 h9 hc0 hcc
              go_wp2
              have hB3 : Has (w2.setCell ⟨w.heap.size, 2, none⟩ (.int .i64 61)) w.heap.size 3 31 (refF t q 61) := (hB.put 2 _).congr (fun i hi => by
                have e : i = 0 ∨ i = 1 ∨ i = 2 := by omega
                rcases e with rfl | rfl | rfl <;> rfl)
              have hA3 := hA1.far ⟨w.heap.size, 2, none⟩ (.int .i64 61) (by simp)
              have hF3 := hF2.setCell ⟨w.heap.size, 2, none⟩ (.int .i64 61) (.inl (Nat.le_refl _))
              clear hB hA1 hF2 c0 c1 c2 f1 f2
              generalize w2.setCell ⟨w.heap.size, 2, none⟩ (.int .i64 61) = w3 at *
              refine Flag.region (fun b w' => Has w' w.heap.size 3 31 (refF t q 61) ∧ Fr Nil w w' ∧ Has w' (w.heap.size + 1) 3 31 (if b then refF t q 61 else refF ⟨#[]⟩ 0 0)) 3 (by kernel_rfl) (by kernel_rfl) (by decide) ⟨hB3.drew, hF3.drew, hA3.drew⟩ ?_
              refine Flag.valF (by decide) rfl (aggF 3 (refF t q 61)) (fun b w' hw' => QTail.run_val rfl (run_load_cells _ _ w.heap.size 0 3 _ (fun i hi => by rw [Nat.zero_add]; exact hw'.1.cell i hi) Try.underlying31 rfl rfl)) ?_
              refine Flag.valF (by decide) rfl (.pointer (some ⟨w.heap.size, 2, none⟩)) (fun b w' hw' => by go_simp) ?_
              refine Flag.valF (by decide) rfl (.int .i64 61) (fun b w' hw' => by have c2 : w'.cell? ⟨w.heap.size, 2, none⟩ = some (.int .i64 61) := hw'.1.cell 2 (by omega); go_simp) ?_
              refine Flag.storeF rfl 31 _ _ rfl (w.heap.size + 1) 0 3 3 31 (refF ⟨#[]⟩ 0 0) (refF t q 61) rfl rfl (by omega) rfl (fun _ _ => refF_one _ _ _ _)
                (fun w' hw' => ⟨hw'.2.2, fun w'' h1 h2 => ⟨h2.has hw'.1 (by simp), hw'.2.1.then1 h2 (.inl (Nat.le_succ _)), h1.congr fun j hj => by rw [if_pos (by omega)]; rfl⟩⟩) ?_
              refine Flag.valF (by decide) rfl (.int .u64 0) (fun b w' hw' => by go_simp) ?_
              refine Flag.valF (by decide) rfl (.int .i64 61) (fun b w' hw' => by go_simp) ?_
              intro w9 hw9
              obtain ⟨hB9, hF9, hA9⟩ := hw9
              simp only [Act.put, List.setIfInBounds_toArray, List.set_cons_succ, List.set_cons_zero]
              go_wp2
              refine bodyPost_ret (results_ctt rfl _ rfl hA9 Try.underlying31 rfl rfl) rfl ?_
              exact ⟨q, hq, rfl, rest_bad t q 61 (by decide), hF9⟩
            · obtain ⟨rfl, rfl, rfl⟩ := hE1 _ _ (by rw [HSTEP.out, if_neg (fun h => h9 h.1), if_neg hcc, if_neg hc0])
              by_cases hcz : c = 0
              · have hc0b : ((c : Int) == 0) = true := by rw [beq_iff_eq]; omega
                have hi0 : ¬ 0 < i := by omega
                have hc128 : c < 128 := by omega
                clear hE1 hform hm5 hm2 h9 hc0 hcc hcz
                have d0 := hA1.cell 0 (by omega)
                have d1 := hA1.cell 1 (by omega)
                have d2 := hA1.cell 2 (by omega)
                have g0 := hA1.free 0
                have g1 := hA1.free 1
                have g2 := hA1.free 2
                go_wp2
                refine bodyPost_ret (results_ctt rfl _ rfl (f := refF t (q + (i + 1)) 0) (b := w.heap.size + 1) (n := 3) (T := 31) ?_ Try.underlying31 rfl rfl) rfl ?_
                · exact (((hA1.far _ _ (by simp)).put 0 _).put 1 _).put 2 _ |>.congr fun i hi => by
                    have e : i = 0 ∨ i = 1 ∨ i = 2 := by omega
                    rcases e with rfl | rfl | rfl
                    · rfl
                    · show Value.int .i64 _ = Value.int .i64 _
                      exact congrArg _ (by omega)
                    · rfl
                · exact ⟨q + (i + 1), by omega, rfl, rfl, (((hF2.setCell ⟨w.heap.size, 1, none⟩ _ (.inl (Nat.le_refl _))).setCell ⟨w.heap.size + 1, 0, none⟩ _ (.inl (Nat.le_succ _))).setCell ⟨w.heap.size + 1, 1, none⟩ _ (.inl (Nat.le_succ _))).setCell ⟨w.heap.size + 1, 2, none⟩ _ (.inl (Nat.le_succ _))⟩
              · have hc0b : ((c : Int) == 0) = false := by rw [beq_eq_false_iff_ne]; omega
                have hc128 : c < 128 := by omega
                clear hE1 hform hm5 hm2 h9 hc0 hcc hcz
                by_cases hi0 : 0 < i
                · skip
                  have d0 := hA1.cell 0 (by omega)
                  have d1 := hA1.cell 1 (by omega)
                  have d2 := hA1.cell 2 (by omega)
                  have g0 := hA1.free 0
                  have g1 := hA1.free 1
                  have g2 := hA1.free 2
                  go_wp2
                  refine bodyPost_ret (results_ctt rfl _ rfl (f := refF t (q + (i + 1)) 0) (b := w.heap.size + 1) (n := 3) (T := 31) ?_ Try.underlying31 rfl rfl) rfl ?_
                  · exact (((hA1.far _ _ (by simp)).put 0 _).put 1 _).put 2 _ |>.congr fun i hi => by
                      have e : i = 0 ∨ i = 1 ∨ i = 2 := by omega
                      rcases e with rfl | rfl | rfl
                      · rfl
                      · show Value.int .i64 _ = Value.int .i64 _
                        exact congrArg _ (by omega)
                      · rfl
                  · exact ⟨q + (i + 1), by omega, rfl, rfl, (((hF2.setCell ⟨w.heap.size, 1, none⟩ _ (.inl (Nat.le_refl _))).setCell ⟨w.heap.size + 1, 0, none⟩ _ (.inl (Nat.le_succ _))).setCell ⟨w.heap.size + 1, 1, none⟩ _ (.inl (Nat.le_succ _))).setCell ⟨w.heap.size + 1, 2, none⟩ _ (.inl (Nat.le_succ _))⟩
                · skip
                  have d0 := hA1.cell 0 (by omega)
                  have d1 := hA1.cell 1 (by omega)
                  have d2 := hA1.cell 2 (by omega)
                  have g0 := hA1.free 0
                  have g1 := hA1.free 1
                  have g2 := hA1.free 2
                  go_wp2
                  refine bodyPost_ret (results_ctt rfl _ rfl (f := refF t (q + (i + 1)) 0) (b := w.heap.size + 1) (n := 3) (T := 31) ?_ Try.underlying31 rfl rfl) rfl ?_
                  · exact (((hA1.far _ _ (by simp)).put 0 _).put 1 _).put 2 _ |>.congr fun i hi => by
                      have e : i = 0 ∨ i = 1 ∨ i = 2 := by omega
                      rcases e with rfl | rfl | rfl
                      · rfl
                      · show Value.int .i64 _ = Value.int .i64 _
                        exact congrArg _ (by omega)
                      · rfl
                  · exact ⟨q + (i + 1), by omega, rfl, rfl, (((hF2.setCell ⟨w.heap.size, 1, none⟩ _ (.inl (Nat.le_refl _))).setCell ⟨w.heap.size + 1, 0, none⟩ _ (.inl (Nat.le_succ _))).setCell ⟨w.heap.size + 1, 1, none⟩ _ (.inl (Nat.le_succ _))).setCell ⟨w.heap.size + 1, 2, none⟩ _ (.inl (Nat.le_succ _))⟩
  · have hne : (bad == 0) = false := by rw [beq_eq_false_iff_ne]; exact hbad
    have e9 : Ending.returned (Value.tuple #[aggF 3 (refF t q bad), .int .u64 0, .int .i64 bad]) = Ending.returned (.tuple #[.agg #[.string t, .int .i64 (q : Int), .int .i64 (numE (rest t q bad) bad)], .int .u64 (numV (rest t q bad) bad : Int), .int .i64 (numE (rest t q bad) bad)]) := by
      have h1 : numE (rest t q bad) bad = bad := if_neg hbad
      have h2 : numV (rest t q bad) bad = 0 := if_neg hbad
      rw [h1, h2]
      rfl
    have f9 : rest t q (numE (rest t q bad) bad) = numS (rest t q bad) bad := by
      have h1 : numE (rest t q bad) bad = bad := if_neg hbad
      have h2 : numS (rest t q bad) bad = rest t q bad := if_neg hbad
      rw [h1, h2]
    have e9 := Lib.hid e9
    have f9 := Lib.hid f9
    go_wp2_with (refine wpList_alloc rfl 31 rfl 3 31 _ (alloc_ref _) ?_; intro w2 hA hFA hz; have hB := hFA.has hb0 (fun h => h); have c2 : w2.cell? ⟨w.heap.size, 2, none⟩ = some (.int .i64 bad) := hB.cell 2 (by omega); have hA1 : Has w2 (w.heap.size + 1) 3 31 (refF ⟨#[]⟩ 0 0) := (by simpa using hA))
    have hF2 := hF0.then0 hFA
    refine Flag.region (fun b w' => Has w' w.heap.size 3 31 (refF t q bad) ∧ Fr Nil w w' ∧ Has w' (w.heap.size + 1) 3 31 (if b then refF t q bad else refF ⟨#[]⟩ 0 0)) 3 (by kernel_rfl) (by kernel_rfl) (by decide) ⟨hB.drew, hF2.drew, hA1.drew⟩ ?_
    refine Flag.valF (by decide) rfl (aggF 3 (refF t q bad)) (fun b w' hw' => QTail.run_val rfl (run_load_cells _ _ w.heap.size 0 3 _ (fun i hi => by rw [Nat.zero_add]; exact hw'.1.cell i hi) Try.underlying31 rfl rfl)) ?_
    refine Flag.valF (by decide) rfl (.pointer (some ⟨w.heap.size, 2, none⟩)) (fun b w' hw' => by go_simp) ?_
    refine Flag.valF (by decide) rfl (.int .i64 bad) (fun b w' hw' => by have c2 : w'.cell? ⟨w.heap.size, 2, none⟩ = some (.int .i64 bad) := hw'.1.cell 2 (by omega); go_simp) ?_
    refine Flag.storeF rfl 31 _ _ rfl (w.heap.size + 1) 0 3 3 31 (refF ⟨#[]⟩ 0 0) (refF t q bad) rfl rfl (by omega) rfl (fun _ _ => refF_one _ _ _ _)
      (fun w' hw' => ⟨hw'.2.2, fun w'' h1 h2 => ⟨h2.has hw'.1 (by simp), hw'.2.1.then1 h2 (.inl (Nat.le_succ _)), h1.congr fun j hj => by rw [if_pos (by omega)]; rfl⟩⟩) ?_
    refine Flag.valF (by decide) rfl (.int .u64 0) (fun b w' hw' => by go_simp) ?_
    refine Flag.valF (by decide) rfl (.int .i64 bad) (fun b w' hw' => by go_simp) ?_
    intro w9 hw9
    obtain ⟨hB9, hF9, hA9⟩ := hw9
    simp only [Act.put, List.setIfInBounds_toArray, List.set_cons_succ, List.set_cons_zero]
    go_wp2
    refine bodyPost_ret (results_ctt rfl _ rfl hA9 Try.underlying31 rfl rfl) rfl ?_
    exact ⟨q, hq, e9.out, f9.out, hF9⟩

end Go.Proofs.Ytebbmpomccjbnaa.Wire
