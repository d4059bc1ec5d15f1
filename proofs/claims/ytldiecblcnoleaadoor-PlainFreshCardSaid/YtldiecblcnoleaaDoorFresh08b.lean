/- massiflaw08.PlainFresh: it returns true. Conditions: the lists can be read; the reference's tables. -/
import Derived.Test.YtldiecblcnoleaaDoorFresh08
namespace Go.Proofs.YtldiecblcnoleaaDoor.Plain
open Go.RowKit Go.Proofs.YtldiecblcnoleaaDoor.Mem Go.Proofs.YtldiecblcnoleaaDoor.Sha Go.Proofs.YtldiecblcnoleaaDoor.Hash
set_option linter.unusedVariables false
set_option linter.unusedSimpArgs false

set_option maxRecDepth 100000 in
set_option maxHeartbeats 4000000 in
theorem plainFresh_calls (A : Option Addr) (n cap : Nat) (LA : Nat → Option Addr) (ln lc : Nat → Nat) (lf : Nat → Nat → ByteArray) (w : World) (hn : n ≤ 9223372036854775807) (hL : Lists w A n LA ln lc lf) (hG : GL w) :
    Calls Tryd.prog 7 #[.slice A n cap] w fun e w' => e = .returned (.bool true) ∧ Fr Nil w w' := by
  obtain ⟨m, hm⟩ : ∃ m, m = min n 12 := ⟨_, rfl⟩
  obtain ⟨P, hP⟩ : ∃ P : Nat → List ByteArray, ∀ i, P i = peaksL 4 (lf i) (min (ln i) 300) 0 (min (ln i) 300) := ⟨_, fun _ => rfl⟩
  have hPl : ∀ i, (P i).length ≤ 300 := fun i => by rw [hP i]; exact Nat.le_trans (peaksL_few _ _ _ _ _) (Nat.min_le_right _ _)
  have hmn : m ≤ n := by omega
  have hm12 : m ≤ 12 := by omega
  have HM := Lib.hid hm
  have HP := Lib.hid hP
  have HL := Lib.hid hL
  have HPL := Lib.hid hPl
  clear hm hP hL hPl
  go_enter Tryd.func7, Tryd.ntmps7
  go_wp2_with fail
  refine (alive_calls _).mono ?_
  rintro e w0 ⟨rfl, hF⟩
  have hw0 := hF.size
  go_wp2
  go_loopw [3, 4] (fun v3 v4 wr => ∃ (i : Nat) (V : Value) (v : Nat → Value), V = v3 ∧ v4 = .int .i64 i ∧ i ≤ m ∧ Fam wr w0.heap.size V (2 * i) v (fun q => (P (q / 2)).length) (fun q => strsF (P (q / 2))) ∧ Fr Nil w0 wr) (fun _ v _ => m - (intOf v).toNat)
  case atStart => exact ⟨0, _, fun _ => .int .i64 0, rfl, rfl, Nat.zero_le _, ⟨Own.nil _ _ _ _ _, fun q hq => by omega, fun p q _ hq => by omega⟩, Fr.refl _ _⟩
  case round =>
    obtain ⟨i, V, v, rfl, rfl, hi, hV, hFr⟩ := hrel
    by_cases hlt : i < m
    · skip
      have h12 : i < 12 := by omega
      have hin : i < n := by omega
      have hL' := (HL.out.fr0 hF).fr0 hFr
      obtain ⟨b, o, rfl, hb, hcell⟩ := hL'.all.at (by omega)
      have hci := hcell i hin
      obtain ⟨hcp1, hcp2⟩ := hL'.cap i hin
      have hei := hL'.each i hin
      have hsi := hL'.size i hin
      have HE := Lib.hid hei
      have HSI := Lib.hid hsi
      clear hcell hL' hei hsi
      go_wp2_with fail
      refine (few_calls (LA i) (ln i) (lc i) _ hcp1 hcp2).mono ?_
      rintro e w1 ⟨rfl, hx⟩
      have hn3 := Nat.min_le_right (ln i) 300
      have hn4 := Nat.min_le_left (ln i) 300
      have hpi := HP.out i
      obtain ⟨r, hr⟩ : ∃ r, min (ln i) 300 = r := ⟨_, rfl⟩
      rw [hr] at hn3 hn4 hpi ⊢
      have HPI := Lib.hid hpi
      clear hr hpi hci
      replace hFr := hFr.then0 hx
      replace hV := hV.fr0 hx
      have hSr := (SlAt.take HE.out r hn4).fr hx
      clear hx HE
      have hs1 : ∀ j, j < r → (lf i j).size ≤ 1152921504606846976 := fun j hj => Nat.le_trans (HSI.out j (by omega)) (by decide)
      go_wp2_with fail
      refine (peaks_calls 4 (LA i) r (lc i) (lf i) _ (by omega) (by omega) hcp2 hs1 hSr).mono ?_
      rintro e w2 ⟨V1, rfl, hO1, hx1⟩
      rw [← HPI.out] at hO1
      go_wp2_with fail
      refine (peaks_calls 4 (LA i) r (lc i) (lf i) _ (by omega) (by omega) hcp2 hs1 (hSr.fr hx1)).mono ?_
      rintro e w3 ⟨V2, rfl, hO2, hx2⟩
      rw [← HPI.out] at hO2
      obtain ⟨A1, cp1, rfl, _⟩ := Own.sl hO1
      obtain ⟨A2, cp2, rfl, _⟩ := Own.sl hO2
      have hsz1 := hFr.size
      have hsz2 := hx1.size
      have hsz3 := hx2.size
      have hnp := new_pair w3 (.slice A1 (P i).length cp1) (.slice A2 (P i).length cp2) 22
      have hone : ∀ j, j < 2 * 1 → ((fun j => if j = 0 then (.slice A1 (P i).length cp1 : Value) else .slice A2 (P i).length cp2) j).oneCell' = true := fun j _ => by
        show (if j = 0 then _ else _ : Value).oneCell' = true
        split <;> rfl
      go_wp2_with (at_builtin; go_must (refine wpList_append rfl _ _ 48 rfl w0.heap.size 22 1 24 (.slice none 0 0) Tryd.underlying48 info_list rfl (by omega) V (2 * i) v rfl ((((hV.top.fr0 hx1).fr0 hx2)).fr0 (Fr.alloc1 _ _)) w3.heap.size 0 2 2 (fun j => if j = 0 then .slice A1 (P i).length cp1 else .slice A2 (P i).length cp2) rfl hnp hone (by omega) (by omega) (by simp; omega) ?_); intro V' w4 hO4 hF4 _; clear hnp hone)
      have hO1' : Own w2 w1.heap.size (.slice A1 (P i).length cp1) 9 1 ((fun q => (P (q / 2)).length) (2 * i)) ((fun q => strsF (P (q / 2))) (2 * i)) := by
        show Own _ _ _ _ _ (P (2 * i / 2)).length (strsF (P (2 * i / 2)))
        rw [show 2 * i / 2 = i by omega]
        exact hO1
      have hO2' : Own w3 w2.heap.size (.slice A2 (P i).length cp2) 9 1 ((fun q => (P (q / 2)).length) (2 * i + 1)) ((fun q => strsF (P (q / 2))) (2 * i + 1)) := by
        show Own _ _ _ _ _ (P ((2 * i + 1) / 2)).length (strsF (P ((2 * i + 1) / 2)))
        rw [show (2 * i + 1) / 2 = i by omega]
        exact hO2
      have hV4 := hV.snoc2 hsz1 hO1' hx1 hO2' hx2 (Fr.alloc1 _ _) hO4 hF4
      have hF5 : Fr Nil w0 w4 := (((hFr.then0 hx1).then0 hx2).alloc _).thenOwn (((hV.top.fr0 hx1).fr0 hx2).fr0 (Fr.alloc1 _ _)) (Nat.le_refl _) hF4
      have hSr4 := SlAt.take ((HL.out.fr0 (hF.then0 hF5)).each i hin) r hn4
      clear hO1' hO2' hO4 hF4 hV hO2 hx1 hx2 hFr hSr hs1
      rcases hV4.top.open with ⟨_, h0⟩ | ⟨tg, tc, TN, tf, rfl, htB, htc, htm, htN, hTH, htf⟩
      · exfalso
        omega
      · have hO1w : SlAt w4 A1 (P i).length (fun j => .string (listF (P i) j)) := by
          have h1 := hV4.each (2 * i) (by omega)
          unfold ext2 at h1
          rw [if_neg (by omega), if_pos rfl] at h1
          have h2 : Own w4 w0.heap.size (.slice A1 (P i).length cp1) 9 1 (P (2 * i / 2)).length (strsF (P (2 * i / 2))) := h1
          rw [show 2 * i / 2 = i by omega] at h2
          exact Own.slAt h2
        have hct : ∀ w', Fr Nil w4 w' → w'.cell? ⟨tg, 2 * i, none⟩ = some (.slice A1 (P i).length cp1) := fun w' hf => by
          rw [(hf.has hTH (fun h => h)).cell _ (by omega), htf _ (by omega)]
          unfold ext2
          rw [if_neg (by omega), if_pos rfl]
        have h2i : IntKind.i64.wrap (2 * (i : Int)) = 2 * (i : Int) := IntWalk.i64_in _ (by omega)
        have h2b : 0 ≤ 2 * (i : Int) ∧ 2 * (i : Int) < ((2 * i + 2 : Nat) : Int) := by omega
        have h2t : (2 * (i : Int)).toNat = 2 * i := by omega
        refine Held.walk (fun w' => Fr Nil w4 w') (by kernel_rfl) ?_
        have hFi : Fr Nil w4 w4.drew := (Fr.refl _ _).drew
        generalize w4.drew = w5 at *
        refine Held.Walk.take (.slice (some ⟨tg, 0, none⟩) (2 * i + 2) tc) (by kernel_rfl) (by kernel_rfl) (by kernel_rfl) rfl (fun w' hw' => by go_simp) hFi ?_
        simp only [Act.put, List.setIfInBounds_toArray, List.set_cons_succ, List.set_cons_zero]
        refine Held.Walk.take (.int .i64 i) (by kernel_rfl) (by kernel_rfl) (by kernel_rfl) rfl (fun w' hw' => by go_simp) hFi ?_
        simp only [Act.put, List.setIfInBounds_toArray, List.set_cons_succ, List.set_cons_zero]
        refine Held.Walk.take (.int .i64 (2 * (i : Int))) (by kernel_rfl) (by kernel_rfl) (by kernel_rfl) rfl (fun w' hw' => by go_simp) hFi ?_
        simp only [Act.put, List.setIfInBounds_toArray, List.set_cons_succ, List.set_cons_zero]
        refine Held.Walk.take (.pointer (some ⟨tg, 2 * i, none⟩)) (by kernel_rfl) (by kernel_rfl) (by kernel_rfl) rfl (fun w' hw' => by go_simp; intro h; omega) hFi ?_
        simp only [Act.put, List.setIfInBounds_toArray, List.set_cons_succ, List.set_cons_zero]
        refine Held.Walk.take (.slice A1 (P i).length cp1) (by kernel_rfl) (by kernel_rfl) (by kernel_rfl) rfl (fun w' hw' => by have c := hct w' hw'; go_simp) hFi ?_
        simp only [Act.put, List.setIfInBounds_toArray, List.set_cons_succ, List.set_cons_zero]
        refine Held.Walk.take (.slice (LA i) r (lc i)) (by kernel_rfl) (by kernel_rfl) (by kernel_rfl) rfl (fun w' hw' => by go_simp) hFi ?_
        simp only [Act.put, List.setIfInBounds_toArray, List.set_cons_succ, List.set_cons_zero]
        refine Held.Walk.call 45 #[.int .i64 4, .slice (LA i) r (lc i)] (by kernel_rfl) rfl (by go_simp) ?_
        refine (rpeaks_calls 4 (LA i) r (lc i) (lf i) _ (by omega) (by omega) hcp2 (fun j hj => HSI.out j (by omega)) (hSr4.fr hFi) (hG.fr0 ((hF.then0 hF5).then0 hFi))).mono ?_
        rintro e w6 ⟨U, rfl, hU, hx⟩
        rw [← HPI.out] at hU
        obtain ⟨UA, uc, rfl, _, _, hUS, _⟩ := Own.sl hU
        refine ⟨_, rfl, hFi.then0 hx, ?_⟩
        replace hFi := hFi.then0 hx
        clear hx hU
        simp only [Act.put, List.setIfInBounds_toArray, List.set_cons_succ, List.set_cons_zero]
        refine Held.Walk.call 44 #[.slice A1 (P i).length cp1, .slice UA (P i).length uc] (by kernel_rfl) rfl (by go_simp) ?_
        refine (same_calls A1 UA (P i).length cp1 uc (listF (P i)) _ (by have := HPL.out i; omega) (hO1w.fr hFi) hUS).mono ?_
        rintro e w7 ⟨rfl, hx⟩
        refine ⟨_, rfl, hFi.then0 hx, ?_⟩
        replace hFi := hFi.then0 hx
        clear hx hUS
        simp only [Act.put, List.setIfInBounds_toArray, List.set_cons_succ, List.set_cons_zero]
        refine Held.Walk.take (.bool false) (by kernel_rfl) (by kernel_rfl) (by kernel_rfl) rfl (fun w' hw' => by go_simp) hFi ?_
        simp only [Act.put, List.setIfInBounds_toArray, List.set_cons_succ, List.set_cons_zero]
        refine Held.Walk.nil (by kernel_rfl) ?_
        go_wp2
        exact ⟨⟨i + 1, _, _, rfl, by go_num, by omega, hV4.fr0 hFi, hF5.then0 hFi⟩, by simp [intOf]; omega⟩
    · have him : i = m := by omega
      subst him
      obtain ⟨TA, tc, rfl, hMc, htc, _⟩ := Own.sl hV.top
      obtain ⟨M, hM⟩ : ∃ M, 2 * i = M := ⟨_, rfl⟩
      rw [hM] at hV hMc ⊢
      have hM24 : M ≤ 24 := by omega
      have HMM := Lib.hid hM
      clear hM hi hlt
      have hcase : ¬ i < n ∨ (i < n ∧ ¬ ((i : Int) < 12)) := by
        have := HM.out
        by_cases h : i < n
        · exact .inr ⟨h, by omega⟩
        · exact .inl h
      obtain ⟨c, hc⟩ : ∃ c : Nat → Nat, c = (fun q => (P (q / 2)).length) := ⟨_, rfl⟩
      have hc300 : ∀ q, c q ≤ 300 := fun q => by rw [hc]; exact HPL.out (q / 2)
      have hV2 : Fam wr w0.heap.size (.slice TA M tc) M v c (fun q => strsF (P (q / 2))) := by rw [hc]; exact hV
      have HC := Lib.hid hc
      have HC3 := Lib.hid hc300
      clear hc hc300 hV
      rcases hcase with d1 | ⟨d1, d2⟩
      all_goals
        go_wp2
        go_loopw [6, 7] (fun v6 _ wx => ∃ (q : Nat) (F : Nat → Nat → Value), v6 = .int .i64 q ∧ q ≤ M ∧ Fam wx w0.heap.size (.slice TA M tc) M v c F ∧ Hid (∀ p, p < q → ∀ t, t < c p → F p t = markV p) ∧ Fr Nil w0 wx) (fun v _ _ => M - (intOf v).toNat)
        case atStart => exact ⟨0, _, rfl, Nat.zero_le _, hV2, fun p hp => by omega, hFr⟩
        case round =>
          clear hV2 hFr
          obtain ⟨q, F, rfl, hq, hV, HF, hFr⟩ := hrel
          by_cases hqM : q < M
          · rcases hV.top.open with ⟨e0, h0⟩ | ⟨tg, tc', TN, tf, e1, htB, htc1, htm, htN, hTH, htf⟩
            · exfalso
              omega
            cases e1
            have htop : ∀ w', Fam w' w0.heap.size (.slice (some ⟨tg, 0, none⟩) M tc) M v c F → True := fun _ _ => trivial
            clear htop hTH htf htB htc1 htm htN
            obtain ⟨QA, qc, hvq, hcq, hqc2, _, _⟩ := Own.sl (hV.each q hqM)
            obtain ⟨wo, hwo⟩ : ∃ wo : World, wo = wr := ⟨_, rfl⟩
            rw [← hwo] at hV hFr ⊢
            clear hwo
            have hc3 := HC3.out q
            go_wp2
            go_loopw [7] (fun v7 wx => ∃ (j : Nat) (F : Nat → Nat → Value), v7 = .int .i64 j ∧ j ≤ c q ∧ Fam wx w0.heap.size (.slice (some ⟨tg, 0, none⟩) M tc) M v c F ∧ Hid (∀ p, p < q → ∀ t, t < c p → F p t = markV p) ∧ Hid (∀ t, t < j → F q t = markV q) ∧ Fr Nil w0 wx) (fun v _ => c q - (intOf v).toNat)
            case atStart => exact ⟨0, F, rfl, Nat.zero_le _, hV, HF.out, fun t ht => by omega, hFr⟩
            case round =>
              clear hV hFr HF
              obtain ⟨j, F, rfl, hj, hV, HF, HFq, hFr⟩ := hrel
              rcases hV.top.open with ⟨e0, h0⟩ | ⟨tg', tc', TN, tf, e1, htB, htc1, htm, htN, hTH, htf⟩
              · cases e0
              cases e1
              have hct : wr.cell? ⟨tg, q, none⟩ = some (.slice QA (c q) qc) := by rw [hTH.cell q (by omega), htf q (by omega), hvq]
              by_cases hjc : j < c q
              · rcases (hV.each q hqM).open with ⟨e0, h0⟩ | ⟨g, cp, GN, gf, e2, hgB, hgc, hgm, hgN, hGH, hgf⟩
                · exfalso
                  omega
                rw [hvq] at e2
                cases e2
                have hob : (v q).ownBlock = some g := by rw [hvq]; rfl
                have hap : tg ≠ g := fun h => (hV.top.apart (hV.each q hqM) (by decide)) g (by rw [h]; rfl) hob
                have hctS : ∀ w', Fr (· = g) wr w' → w'.cell? ⟨tg, q, none⟩ = some (.slice (some ⟨g, 0, none⟩) (c q) qc) := fun w' hf => (hf.cell (p := ⟨tg, q, none⟩) hTH.lt hap).trans hct
                have hgj := hGH.cell j (by omega)
                have hgfr := hGH.free j
                have hglt := hGH.lt
                have hq256 : 0 ≤ (q : Int) ∧ (q : Int) < 256 := by omega
                have hqw : IntKind.u8.wrap (q : Int) = (q : Int) := by show (q : Int) % 256 = q; omega
                have hqM2 : 0 ≤ (q : Int) ∧ (q : Int) < M := by omega
                have hjc2 : 0 ≤ (j : Int) ∧ (j : Int) < c q := by omega
                go_wp2_with fail
                refine Held.walk (fun w' => Fr (· = g) wr w') (by kernel_rfl) ?_
                have hS : Fr (· = g) wr wr.drew := (Fr.refl _ _).drew
                refine Held.Walk.take (.slice (some ⟨tg, 0, none⟩) M tc) (by kernel_rfl) (by kernel_rfl) (by kernel_rfl) rfl (fun w' hw' => by go_simp) hS ?_
                simp only [Act.put, List.setIfInBounds_toArray, List.set_cons_succ, List.set_cons_zero]
                refine Held.Walk.take (.int .i64 q) (by kernel_rfl) (by kernel_rfl) (by kernel_rfl) rfl (fun w' hw' => by go_simp) hS ?_
                simp only [Act.put, List.setIfInBounds_toArray, List.set_cons_succ, List.set_cons_zero]
                refine Held.Walk.take (.pointer (some ⟨tg, q, none⟩)) (by kernel_rfl) (by kernel_rfl) (by kernel_rfl) rfl (fun w' hw' => by go_simp) hS ?_
                simp only [Act.put, List.setIfInBounds_toArray, List.set_cons_succ, List.set_cons_zero]
                refine Held.Walk.take (.slice (some ⟨g, 0, none⟩) (c q) qc) (by kernel_rfl) (by kernel_rfl) (by kernel_rfl) rfl (fun w' hw' => by have cc := hctS w' hw'; go_simp) hS ?_
                simp only [Act.put, List.setIfInBounds_toArray, List.set_cons_succ, List.set_cons_zero]
                refine Held.Walk.take (.int .i64 j) (by kernel_rfl) (by kernel_rfl) (by kernel_rfl) rfl (fun w' hw' => by go_simp) hS ?_
                simp only [Act.put, List.setIfInBounds_toArray, List.set_cons_succ, List.set_cons_zero]
                refine Held.Walk.take (.int .i64 q) (by kernel_rfl) (by kernel_rfl) (by kernel_rfl) rfl (fun w' hw' => by go_simp) hS ?_
                simp only [Act.put, List.setIfInBounds_toArray, List.set_cons_succ, List.set_cons_zero]
                refine Held.Walk.take (.int .u8 q) (by kernel_rfl) (by kernel_rfl) (by kernel_rfl) rfl (fun w' hw' => by go_simp) hS ?_
                simp only [Act.put, List.setIfInBounds_toArray, List.set_cons_succ, List.set_cons_zero]
                refine Held.Walk.value (.slice (some ⟨wr.heap.size, 0, none⟩) 2 2) (wr.drew.alloc (.cells #[.int .u8 (q : Int), .int .u8 109] 5)) (by kernel_rfl) rfl (by go_simp) (hS.alloc _) ?_
                simp only [Act.put, List.setIfInBounds_toArray, List.set_cons_succ, List.set_cons_zero]
                have hcm := conv_mark q (by omega) wr.drew
                refine Held.Walk.value (markV q) (wr.drew.alloc (.cells #[.int .u8 (q : Int), .int .u8 109] 5)) (by kernel_rfl) rfl (QTail.run_val rfl hcm) (hS.alloc _) ?_
                simp only [Act.put, List.setIfInBounds_toArray, List.set_cons_succ, List.set_cons_zero]
                refine Held.Walk.take (.pointer (some ⟨g, j, none⟩)) (by kernel_rfl) (by kernel_rfl) (by kernel_rfl) rfl (fun w' hw' => by go_simp) (hS.alloc _) ?_
                simp only [Act.put, List.setIfInBounds_toArray, List.set_cons_succ, List.set_cons_zero]
                refine Held.Walk.skipS ((wr.drew.alloc (.cells #[.int .u8 (q : Int), .int .u8 109] 5)).setCell ⟨g, j, none⟩ (markV q)) (by kernel_rfl) rfl (by unfold markV; go_simp) ((hS.alloc _).setCell _ _ (.inr rfl)) ?_
                simp only [Act.put, List.setIfInBounds_toArray, List.set_cons_succ, List.set_cons_zero]
                refine Held.Walk.nil (by kernel_rfl) ?_
                have hV6 := (hV.fr0 ((Fr.refl Nil wr).drew.alloc (.cells #[.int .u8 (q : Int), .int .u8 109] 5))).put hqM hvq j (markV q)
                have hF6 : Fr Nil w0 ((wr.drew.alloc (.cells #[.int .u8 (q : Int), .int .u8 109] 5)).setCell ⟨g, j, none⟩ (markV q)) := (hFr.drew.alloc _).setCell _ _ (.inl hgB)
                clear hcm hS hgj hgfr hctS hct hTH hGH
                generalize (wr.drew.alloc (.cells #[.int .u8 (q : Int), .int .u8 109] 5)).setCell ⟨g, j, none⟩ (markV q) = w6 at *
                go_wp2
                refine ⟨⟨j + 1, _, by go_num, by omega, hV6, ?_, ?_, hF6⟩, by simp [intOf]; omega⟩
                · intro p hp t ht
                  have e : p ≠ q := by omega
                  simp only [if_neg e]
                  exact HF.out p hp t ht
                · intro t ht
                  simp only [if_true]
                  by_cases e : t = j
                  · rw [if_pos e]
                  · rw [if_neg e]
                    exact HFq.out t (by omega)
              · have hjc2 : j = c q := by omega
                go_wp2
                refine ⟨⟨q + 1, F, by go_num, by omega, hV, ?_, hFr⟩, by simp [intOf]; omega⟩
                intro p hp t ht
                by_cases e : p < q
                · exact HF.out p e t ht
                · obtain rfl : p = q := by omega
                  exact HFq.out t (by omega)
          · obtain rfl : M = q := by omega
            have hV3 : Fam wr w0.heap.size (.slice TA M tc) M v c (fun p _ => markV p) := hV.congr fun p hp t ht => HF.out p (by omega) t ht
            clear hV HF
            go_wp2
            have hL0 : Long wr w0.heap.size (.slice TA M tc) M v c (.slice none 0 0) 0 (fun _ => .int .i64 0) := ⟨hV3, Own.nil _ _ _ _ _, (fun k h1 h2 => by cases h2), (fun p hp => by omega), (fun p r hp => by omega), (fun p r hp => by omega)⟩
            have hwr := hFr.size
            go_loopw [8, 9, 10, 11] (fun v8 v9 _ _ wx => ∃ (s : Nat) (W : Value) (x : Nat → Value), W = v8 ∧ v9 = .int .i64 s ∧ s ≤ M ∧ Long wx w0.heap.size (.slice TA M tc) M v c W s x ∧ Fr Nil w0 wx) (fun _ v _ _ _ => M - (intOf v).toNat)
            case atStart => exact ⟨0, _, _, rfl, rfl, Nat.zero_le _, hL0, hFr⟩
            case round =>
              clear hL0 hFr hV3 hwr
              obtain ⟨s, W, x, rfl, rfl, hsM, hLo, hFr⟩ := hrel
              by_cases hlt : s < M
              · rcases hLo.fam.top.open with ⟨e0, h0⟩ | ⟨tg, tc', TN, tf, e1, htB, htc1, htm, htN, hTH, htf⟩
                · exfalso
                  omega
                cases e1
                have hct : wr.cell? ⟨tg, s, none⟩ = some (v s) := by rw [hTH.cell s (by omega), htf s (by omega)]
                go_wp2
                obtain ⟨wo, hwo⟩ : ∃ wo : World, wo = wr := ⟨_, rfl⟩
                have hC0 := Cur.start hLo hlt
                rw [← hwo] at hC0 hFr ⊢
                clear hwo hLo hct hTH
                have hc3 := HC3.out s
                go_loopw [10, 11] (fun v10 v11 wx => ∃ (t : Nat) (X : Value), X = v10 ∧ v11 = .int .i64 t ∧ t ≤ 20 ∧ Cur wx w0.heap.size (.slice (some ⟨tg, 0, none⟩) M tc) M v c W s x X (c s + t) ∧ Fr Nil w0 wx) (fun _ v _ => 20 - (intOf v).toNat)
                case atStart => exact ⟨0, v s, rfl, rfl, Nat.zero_le _, hC0, hFr⟩
                case round =>
                  clear hC0 hFr
                  obtain ⟨t, X, rfl, rfl, ht, hC, hFr⟩ := hrel
                  have hwr := hFr.size
                  by_cases htl : t < 20
                  · have hcm := conv_mark s (by omega) wr
                    unfold markV at hcm
                    have hsw : IntKind.u8.wrap (s : Int) = (s : Int) := by show (s : Int) % 256 = s; omega
                    have hs256 : 0 ≤ (s : Int) ∧ (s : Int) < 256 := by omega
                    have hn1 := new_one (wr.alloc (.cells #[.int .u8 (s : Int), .int .u8 109] 5)) (.string (markB s)) 9
                    have hsz2 : (wr.alloc (.cells #[.int .u8 (s : Int), .int .u8 109] 5)).heap.size = wr.heap.size + 1 := by simp
                    rw [hsz2] at hn1
                    go_wp2_with (at_builtin; go_must (refine wpList_append_keep rfl _ _ 22 rfl w0.heap.size 9 1 16 (.string ⟨#[]⟩) Tryd.underlying22 info_str rfl (by omega) X (c s + t) (fun _ => markV s) rfl (hC.own.fr0 ((Fr.alloc1 _ _).alloc _)) (wr.heap.size + 1) 0 1 1 (fun _ => .string (markB s)) rfl hn1 (fun _ _ => rfl) (by omega) (by omega) (by simp; omega) ?_); intro X' w2 hO2 hF2 hK2 hB2)
                    have hO3 : Own w2 w0.heap.size X' 9 1 (c s + t + 1) (fun _ => markV s) := hO2.congr fun j hj => by unfold joinF markV; split <;> rfl
                    have hk2 : Fr Nil wr ((wr.alloc (.cells #[.int .u8 (s : Int), .int .u8 109] 5)).alloc (.cells #[.string (markB s)] 9)) := (Fr.alloc1 _ _).alloc _
                    have hC3 := hC.app hlt hk2 hO3 hF2 hK2 hB2
                    have hF3 := (hFr.then0 hk2).thenOwn (hC.own.fr0 hk2) (Nat.le_refl _) hF2
                    exact ⟨⟨t + 1, X', rfl, by go_num, by omega, by rw [← Nat.add_assoc]; exact hC3, hF3⟩, by simp [intOf]; omega⟩
                  · have ht20 : t = 20 := by omega
                    subst ht20
                    obtain ⟨XA, xc, rfl, _⟩ := Own.sl hC.own
                    have hn1 := new_one wr (.slice XA (c s + 20) xc) 22
                    go_wp2_with (at_builtin; go_must (refine wpList_append_keep rfl _ _ 48 rfl w0.heap.size 22 1 24 (.slice none 0 0) Tryd.underlying48 info_list rfl (by omega) W s x rfl (hC.long.top.fr0 (Fr.alloc1 _ _)) wr.heap.size 0 1 1 (fun _ => .slice XA (c s + 20) xc) rfl hn1 (fun _ _ => rfl) (by omega) (by omega) (by simp; omega) ?_); intro W' w2 hO2 hF2 hK2 hB2)
                    have hL3 := hC.done hlt (Fr.alloc1 _ _) hO2 hF2 hB2
                    have hF3 := (hFr.alloc (.cells #[.slice XA (c s + 20) xc] 22)).thenOwn (hC.long.top.fr0 (Fr.alloc1 _ _)) (Nat.le_refl _) hF2
                    exact ⟨⟨s + 1, W', _, rfl, by go_num, by omega, hL3, hF3⟩, by simp [intOf]; omega⟩
              · obtain rfl : M = s := by omega
                clear hlt hsM
                obtain ⟨wo, hwo⟩ : ∃ wo : World, wo = wr := ⟨_, rfl⟩
                rw [← hwo] at hLo hFr ⊢
                clear hwo
                obtain ⟨WA, wc, rfl, hwc1, hwc2, _⟩ := Own.sl hLo.top
                go_wp2
                go_loopw [12, 13] (fun v12 _ wx => ∃ q : Nat, v12 = .int .i64 q ∧ q ≤ M ∧ Fr Nil wo wx) (fun v _ _ => M - (intOf v).toNat)
                case atStart => exact ⟨0, rfl, Nat.zero_le _, Fr.refl _ _⟩
                case round =>
                  obtain ⟨q, rfl, hq, hFx⟩ := hrel
                  by_cases hqM : q < M
                  · have hc3 := HC3.out q
                    rcases hLo.top.open with ⟨e0, h0⟩ | ⟨wg, wc', WN, wf, e1, _, _, _, hwN, hWH, hwf⟩
                    · exfalso
                      omega
                    cases e1
                    rcases hLo.fam.top.open with ⟨e0, h0⟩ | ⟨tg, tc', TN, tf, e1, _, _, _, htN, hTH, htf⟩
                    · exfalso
                      omega
                    cases e1
                    rcases (hLo.each q hqM).open with ⟨e0, h0⟩ | ⟨xg, xc, XN, xf, hxq, _, hxc, hxm, hxN, hXH, hxf⟩
                    · exfalso
                      omega
                    obtain ⟨QA, qc, hvq, hqc1, hqc2, _, _⟩ := Own.sl (hLo.fam.each q hqM)
                    have hcx : ∀ w', Fr Nil wo w' → w'.cell? ⟨wg, q, none⟩ = some (.slice (some ⟨xg, 0, none⟩) (c q + 20) xc) := fun w' hf => by
                      rw [(hf.has hWH (fun h => h)).cell _ (by omega), hwf _ (by omega), hxq]
                    have hcv : ∀ w', Fr Nil wo w' → w'.cell? ⟨tg, q, none⟩ = some (.slice QA (c q) qc) := fun w' hf => by
                      rw [(hf.has hTH (fun h => h)).cell _ (by omega), htf _ (by omega), hvq]
                    have hcj : ∀ j, j < c q + 20 → ∀ w', Fr Nil wo w' → w'.cell? ⟨xg, j, none⟩ = some (markV q) := fun j hj w' hf => by
                      rw [(hf.has hXH (fun h => h)).cell _ (by omega), hxf _ (by omega)]
                    have HX := Lib.hid hcx
                    have HV := Lib.hid hcv
                    have HJ := Lib.hid hcj
                    have c1 := hcx _ hFx
                    clear hcx hcv hcj hWH hTH hXH hwf htf hxf
                    have hqM2 : 0 ≤ (q : Int) ∧ (q : Int) < M := by omega
                    go_wp2
                    clear c1
                    go_loopw [13] (fun v13 wx => ∃ j : Nat, v13 = .int .i64 j ∧ j ≤ c q + 20 ∧ Fr Nil wo wx) (fun v _ => c q + 20 - (intOf v).toNat)
                    case atStart => exact ⟨0, rfl, Nat.zero_le _, hFx⟩
                    case round =>
                      clear hFx
                      obtain ⟨j, rfl, hj, hFx⟩ := hrel
                      have c1 := HX.out _ hFx
                      by_cases hjc : j < c q + 20
                      · have hq256 : 0 ≤ (q : Int) ∧ (q : Int) < 256 := by omega
                        have hqw : IntKind.u8.wrap (q : Int) = (q : Int) := by show (q : Int) % 256 = q; omega
                        have hjc2 : 0 ≤ (j : Int) ∧ (j : Int) < ((c q + 20 : Nat) : Int) := by omega
                        go_wp2_with fail
                        clear c1
                        have hcx : ∀ w', Fr Nil wr w' → w'.cell? ⟨wg, q, none⟩ = some (.slice (some ⟨xg, 0, none⟩) (c q + 20) xc) := fun w' hf => HX.out w' (hFx.then0 hf)
                        have hcv : ∀ w', Fr Nil wr w' → w'.cell? ⟨tg, q, none⟩ = some (.slice QA (c q) qc) := fun w' hf => HV.out w' (hFx.then0 hf)
                        have hcj : ∀ w', Fr Nil wr w' → w'.cell? ⟨xg, j, none⟩ = some (markV q) := fun w' hf => HJ.out j hjc w' (hFx.then0 hf)
                        refine Held.walk (fun w' => Fr Nil wr w') (by kernel_rfl) ?_
                        have hS : Fr Nil wr wr.drew := (Fr.refl _ _).drew
                        refine Held.Walk.take (.slice (some ⟨wg, 0, none⟩) M wc) (by kernel_rfl) (by kernel_rfl) (by kernel_rfl) rfl (fun w' hw' => by go_simp) hS ?_
                        simp only [Act.put, List.setIfInBounds_toArray, List.set_cons_succ, List.set_cons_zero]
                        refine Held.Walk.take (.int .i64 q) (by kernel_rfl) (by kernel_rfl) (by kernel_rfl) rfl (fun w' hw' => by go_simp) hS ?_
                        simp only [Act.put, List.setIfInBounds_toArray, List.set_cons_succ, List.set_cons_zero]
                        refine Held.Walk.take (.pointer (some ⟨wg, q, none⟩)) (by kernel_rfl) (by kernel_rfl) (by kernel_rfl) rfl (fun w' hw' => by go_simp) hS ?_
                        simp only [Act.put, List.setIfInBounds_toArray, List.set_cons_succ, List.set_cons_zero]
                        refine Held.Walk.take (.slice (some ⟨xg, 0, none⟩) (c q + 20) xc) (by kernel_rfl) (by kernel_rfl) (by kernel_rfl) rfl (fun w' hw' => by have cc := hcx w' hw'; go_simp) hS ?_
                        simp only [Act.put, List.setIfInBounds_toArray, List.set_cons_succ, List.set_cons_zero]
                        refine Held.Walk.take (.int .i64 j) (by kernel_rfl) (by kernel_rfl) (by kernel_rfl) rfl (fun w' hw' => by go_simp) hS ?_
                        simp only [Act.put, List.setIfInBounds_toArray, List.set_cons_succ, List.set_cons_zero]
                        refine Held.Walk.take (.pointer (some ⟨xg, j, none⟩)) (by kernel_rfl) (by kernel_rfl) (by kernel_rfl) rfl (fun w' hw' => by go_simp) hS ?_
                        simp only [Act.put, List.setIfInBounds_toArray, List.set_cons_succ, List.set_cons_zero]
                        refine Held.Walk.take (markV q) (by kernel_rfl) (by kernel_rfl) (by kernel_rfl) rfl (fun w' hw' => by have cc := hcj w' hw'; go_simp) hS ?_
                        simp only [Act.put, List.setIfInBounds_toArray, List.set_cons_succ, List.set_cons_zero]
                        refine Held.Walk.take (.int .i64 q) (by kernel_rfl) (by kernel_rfl) (by kernel_rfl) rfl (fun w' hw' => by go_simp) hS ?_
                        simp only [Act.put, List.setIfInBounds_toArray, List.set_cons_succ, List.set_cons_zero]
                        refine Held.Walk.take (.int .u8 q) (by kernel_rfl) (by kernel_rfl) (by kernel_rfl) rfl (fun w' hw' => by go_simp) hS ?_
                        simp only [Act.put, List.setIfInBounds_toArray, List.set_cons_succ, List.set_cons_zero]
                        refine Held.Walk.value (.slice (some ⟨wr.heap.size, 0, none⟩) 2 2) (wr.drew.alloc (.cells #[.int .u8 (q : Int), .int .u8 109] 5)) (by kernel_rfl) rfl (by go_simp) (hS.alloc _) ?_
                        simp only [Act.put, List.setIfInBounds_toArray, List.set_cons_succ, List.set_cons_zero]
                        have hcm := conv_mark q (by omega) wr.drew
                        refine Held.Walk.value (markV q) (wr.drew.alloc (.cells #[.int .u8 (q : Int), .int .u8 109] 5)) (by kernel_rfl) rfl (QTail.run_val rfl hcm) (hS.alloc _) ?_
                        simp only [Act.put, List.setIfInBounds_toArray, List.set_cons_succ, List.set_cons_zero]
                        have hS2 := hS.alloc (.cells #[.int .u8 (q : Int), .int .u8 109] 5)
                        clear hcm hS
                        generalize (wr.drew.alloc (.cells #[.int .u8 (q : Int), .int .u8 109] 5)) = w6 at *
                        refine Held.Walk.take (.bool false) (by kernel_rfl) (by kernel_rfl) (by kernel_rfl) rfl (fun w' hw' => by unfold markV; go_simp) hS2 ?_
                        simp only [Act.put, List.setIfInBounds_toArray, List.set_cons_succ, List.set_cons_zero]
                        refine Held.Walk.take (.bool false) (by kernel_rfl) (by kernel_rfl) (by kernel_rfl) rfl (fun w' hw' => by go_simp) hS2 ?_
                        simp only [Act.put, List.setIfInBounds_toArray, List.set_cons_succ, List.set_cons_zero]
                        refine Held.Walk.takeIf (.int .i64 j) (by kernel_rfl) (by kernel_rfl) (by kernel_rfl) (by go_simp) (fun w' hw' => by go_simp) hS2 ?_
                        simp only [Act.put, List.setIfInBounds_toArray, List.set_cons_succ, List.set_cons_zero]
                        refine Held.Walk.takeIf (.slice (some ⟨tg, 0, none⟩) M tc) (by kernel_rfl) (by kernel_rfl) (by kernel_rfl) (by go_simp) (fun w' hw' => by go_simp) hS2 ?_
                        simp only [Act.put, List.setIfInBounds_toArray, List.set_cons_succ, List.set_cons_zero]
                        refine Held.Walk.takeIf (.int .i64 q) (by kernel_rfl) (by kernel_rfl) (by kernel_rfl) (by go_simp) (fun w' hw' => by go_simp) hS2 ?_
                        simp only [Act.put, List.setIfInBounds_toArray, List.set_cons_succ, List.set_cons_zero]
                        refine Held.Walk.takeIf (.pointer (some ⟨tg, q, none⟩)) (by kernel_rfl) (by kernel_rfl) (by kernel_rfl) (by go_simp) (fun w' hw' => by go_simp) hS2 ?_
                        simp only [Act.put, List.setIfInBounds_toArray, List.set_cons_succ, List.set_cons_zero]
                        refine Held.Walk.takeIf (.slice QA (c q) qc) (by kernel_rfl) (by kernel_rfl) (by kernel_rfl) (by go_simp) (fun w' hw' => by have cc := hcv w' hw'; go_simp) hS2 ?_
                        simp only [Act.put, List.setIfInBounds_toArray, List.set_cons_succ, List.set_cons_zero]
                        refine Held.Walk.takeIf (.int .i64 (c q)) (by kernel_rfl) (by kernel_rfl) (by kernel_rfl) (by go_simp) (fun w' hw' => by go_simp) hS2 ?_
                        simp only [Act.put, List.setIfInBounds_toArray, List.set_cons_succ, List.set_cons_zero]
                        by_cases hjv : j < c q
                        · rcases (hLo.fam.each q hqM).open with ⟨e0, h0⟩ | ⟨vg, cp, GN, gf, e2, hgB, hgc, hgm, hgN, hGH, hgf⟩
                          · exfalso
                            omega
                          rw [hvq] at e2
                          cases e2
                          have hcvj : ∀ w', Fr Nil wr w' → w'.cell? ⟨vg, j, none⟩ = some (markV q) := fun w' hf => by
                            rw [((hFx.then0 hf).has hGH (fun h => h)).cell _ (by omega), hgf _ (by omega)]
                          have hjc3 : 0 ≤ (j : Int) ∧ (j : Int) < c q := by omega
                          refine Held.Walk.takeIf (.bool true) (by kernel_rfl) (by kernel_rfl) (by kernel_rfl) (by go_simp) (fun w' hw' => by go_simp) hS2 ?_
                          simp only [Act.put, List.setIfInBounds_toArray, List.set_cons_succ, List.set_cons_zero]
                          refine Held.Walk.takeIf (.bool true) (by kernel_rfl) (by kernel_rfl) (by kernel_rfl) (by go_simp) (fun w' hw' => by go_simp) hS2 ?_
                          simp only [Act.put, List.setIfInBounds_toArray, List.set_cons_succ, List.set_cons_zero]
                          refine Held.Walk.takeIf (.slice (some ⟨tg, 0, none⟩) M tc) (by kernel_rfl) (by kernel_rfl) (by kernel_rfl) (by go_simp) (fun w' hw' => by go_simp) hS2 ?_
                          simp only [Act.put, List.setIfInBounds_toArray, List.set_cons_succ, List.set_cons_zero]
                          refine Held.Walk.takeIf (.int .i64 q) (by kernel_rfl) (by kernel_rfl) (by kernel_rfl) (by go_simp) (fun w' hw' => by go_simp) hS2 ?_
                          simp only [Act.put, List.setIfInBounds_toArray, List.set_cons_succ, List.set_cons_zero]
                          refine Held.Walk.takeIf (.pointer (some ⟨tg, q, none⟩)) (by kernel_rfl) (by kernel_rfl) (by kernel_rfl) (by go_simp) (fun w' hw' => by go_simp) hS2 ?_
                          simp only [Act.put, List.setIfInBounds_toArray, List.set_cons_succ, List.set_cons_zero]
                          refine Held.Walk.takeIf (.slice (some ⟨vg, 0, none⟩) (c q) qc) (by kernel_rfl) (by kernel_rfl) (by kernel_rfl) (by go_simp) (fun w' hw' => by have cc := hcv w' hw'; go_simp) hS2 ?_
                          simp only [Act.put, List.setIfInBounds_toArray, List.set_cons_succ, List.set_cons_zero]
                          refine Held.Walk.takeIf (.int .i64 j) (by kernel_rfl) (by kernel_rfl) (by kernel_rfl) (by go_simp) (fun w' hw' => by go_simp) hS2 ?_
                          simp only [Act.put, List.setIfInBounds_toArray, List.set_cons_succ, List.set_cons_zero]
                          refine Held.Walk.takeIf (.pointer (some ⟨vg, j, none⟩)) (by kernel_rfl) (by kernel_rfl) (by kernel_rfl) (by go_simp) (fun w' hw' => by go_simp) hS2 ?_
                          simp only [Act.put, List.setIfInBounds_toArray, List.set_cons_succ, List.set_cons_zero]
                          refine Held.Walk.takeIf (markV q) (by kernel_rfl) (by kernel_rfl) (by kernel_rfl) (by go_simp) (fun w' hw' => by have cc := hcvj w' hw'; go_simp) hS2 ?_
                          simp only [Act.put, List.setIfInBounds_toArray, List.set_cons_succ, List.set_cons_zero]
                          refine Held.Walk.takeIf (.slice (some ⟨wg, 0, none⟩) M wc) (by kernel_rfl) (by kernel_rfl) (by kernel_rfl) (by go_simp) (fun w' hw' => by go_simp) hS2 ?_
                          simp only [Act.put, List.setIfInBounds_toArray, List.set_cons_succ, List.set_cons_zero]
                          refine Held.Walk.takeIf (.int .i64 q) (by kernel_rfl) (by kernel_rfl) (by kernel_rfl) (by go_simp) (fun w' hw' => by go_simp) hS2 ?_
                          simp only [Act.put, List.setIfInBounds_toArray, List.set_cons_succ, List.set_cons_zero]
                          refine Held.Walk.takeIf (.pointer (some ⟨wg, q, none⟩)) (by kernel_rfl) (by kernel_rfl) (by kernel_rfl) (by go_simp) (fun w' hw' => by go_simp) hS2 ?_
                          simp only [Act.put, List.setIfInBounds_toArray, List.set_cons_succ, List.set_cons_zero]
                          refine Held.Walk.takeIf (.slice (some ⟨xg, 0, none⟩) (c q + 20) xc) (by kernel_rfl) (by kernel_rfl) (by kernel_rfl) (by go_simp) (fun w' hw' => by have cc := hcx w' hw'; go_simp) hS2 ?_
                          simp only [Act.put, List.setIfInBounds_toArray, List.set_cons_succ, List.set_cons_zero]
                          refine Held.Walk.takeIf (.int .i64 j) (by kernel_rfl) (by kernel_rfl) (by kernel_rfl) (by go_simp) (fun w' hw' => by go_simp) hS2 ?_
                          simp only [Act.put, List.setIfInBounds_toArray, List.set_cons_succ, List.set_cons_zero]
                          refine Held.Walk.takeIf (.pointer (some ⟨xg, j, none⟩)) (by kernel_rfl) (by kernel_rfl) (by kernel_rfl) (by go_simp) (fun w' hw' => by go_simp) hS2 ?_
                          simp only [Act.put, List.setIfInBounds_toArray, List.set_cons_succ, List.set_cons_zero]
                          refine Held.Walk.takeIf (markV q) (by kernel_rfl) (by kernel_rfl) (by kernel_rfl) (by go_simp) (fun w' hw' => by have cc := hcj w' hw'; go_simp) hS2 ?_
                          simp only [Act.put, List.setIfInBounds_toArray, List.set_cons_succ, List.set_cons_zero]
                          refine Held.Walk.takeIf (.bool false) (by kernel_rfl) (by kernel_rfl) (by kernel_rfl) (by go_simp) (fun w' hw' => by unfold markV; go_simp) hS2 ?_
                          simp only [Act.put, List.setIfInBounds_toArray, List.set_cons_succ, List.set_cons_zero]
                          refine Held.Walk.takeIf (.bool false) (by kernel_rfl) (by kernel_rfl) (by kernel_rfl) (by go_simp) (fun w' hw' => by go_simp) hS2 ?_
                          simp only [Act.put, List.setIfInBounds_toArray, List.set_cons_succ, List.set_cons_zero]
                          refine Held.Walk.take (.bool false) (by kernel_rfl) (by kernel_rfl) (by kernel_rfl) rfl (fun w' hw' => by go_simp) hS2 ?_
                          simp only [Act.put, List.setIfInBounds_toArray, List.set_cons_succ, List.set_cons_zero]
                          refine Held.Walk.nil (by kernel_rfl) ?_
                          go_wp2
                          exact ⟨⟨j + 1, by go_num, by omega, hFx.then0 hS2⟩, by simp [intOf]; omega⟩
                        · skip
                          refine Held.Walk.takeIf (.bool false) (by kernel_rfl) (by kernel_rfl) (by kernel_rfl) (by go_simp) (fun w' hw' => by go_simp) hS2 ?_
                          simp only [Act.put, List.setIfInBounds_toArray, List.set_cons_succ, List.set_cons_zero]
                          refine Held.Walk.takeIf (.bool false) (by kernel_rfl) (by kernel_rfl) (by kernel_rfl) (by go_simp) (fun w' hw' => by go_simp) hS2 ?_
                          simp only [Act.put, List.setIfInBounds_toArray, List.set_cons_succ, List.set_cons_zero]
                          refine Held.Walk.skip (by kernel_rfl) (by kernel_rfl) (by kernel_rfl) (by go_simp) hS2 ?_
                          simp only [Act.put, List.setIfInBounds_toArray, List.set_cons_succ, List.set_cons_zero]
                          refine Held.Walk.skip (by kernel_rfl) (by kernel_rfl) (by kernel_rfl) (by go_simp) hS2 ?_
                          simp only [Act.put, List.setIfInBounds_toArray, List.set_cons_succ, List.set_cons_zero]
                          refine Held.Walk.skip (by kernel_rfl) (by kernel_rfl) (by kernel_rfl) (by go_simp) hS2 ?_
                          simp only [Act.put, List.setIfInBounds_toArray, List.set_cons_succ, List.set_cons_zero]
                          refine Held.Walk.skip (by kernel_rfl) (by kernel_rfl) (by kernel_rfl) (by go_simp) hS2 ?_
                          simp only [Act.put, List.setIfInBounds_toArray, List.set_cons_succ, List.set_cons_zero]
                          refine Held.Walk.skip (by kernel_rfl) (by kernel_rfl) (by kernel_rfl) (by go_simp) hS2 ?_
                          simp only [Act.put, List.setIfInBounds_toArray, List.set_cons_succ, List.set_cons_zero]
                          refine Held.Walk.skip (by kernel_rfl) (by kernel_rfl) (by kernel_rfl) (by go_simp) hS2 ?_
                          simp only [Act.put, List.setIfInBounds_toArray, List.set_cons_succ, List.set_cons_zero]
                          refine Held.Walk.skip (by kernel_rfl) (by kernel_rfl) (by kernel_rfl) (by go_simp) hS2 ?_
                          simp only [Act.put, List.setIfInBounds_toArray, List.set_cons_succ, List.set_cons_zero]
                          refine Held.Walk.skip (by kernel_rfl) (by kernel_rfl) (by kernel_rfl) (by go_simp) hS2 ?_
                          simp only [Act.put, List.setIfInBounds_toArray, List.set_cons_succ, List.set_cons_zero]
                          refine Held.Walk.skip (by kernel_rfl) (by kernel_rfl) (by kernel_rfl) (by go_simp) hS2 ?_
                          simp only [Act.put, List.setIfInBounds_toArray, List.set_cons_succ, List.set_cons_zero]
                          refine Held.Walk.skip (by kernel_rfl) (by kernel_rfl) (by kernel_rfl) (by go_simp) hS2 ?_
                          simp only [Act.put, List.setIfInBounds_toArray, List.set_cons_succ, List.set_cons_zero]
                          refine Held.Walk.skip (by kernel_rfl) (by kernel_rfl) (by kernel_rfl) (by go_simp) hS2 ?_
                          simp only [Act.put, List.setIfInBounds_toArray, List.set_cons_succ, List.set_cons_zero]
                          refine Held.Walk.skip (by kernel_rfl) (by kernel_rfl) (by kernel_rfl) (by go_simp) hS2 ?_
                          simp only [Act.put, List.setIfInBounds_toArray, List.set_cons_succ, List.set_cons_zero]
                          refine Held.Walk.skip (by kernel_rfl) (by kernel_rfl) (by kernel_rfl) (by go_simp) hS2 ?_
                          simp only [Act.put, List.setIfInBounds_toArray, List.set_cons_succ, List.set_cons_zero]
                          refine Held.Walk.skip (by kernel_rfl) (by kernel_rfl) (by kernel_rfl) (by go_simp) hS2 ?_
                          simp only [Act.put, List.setIfInBounds_toArray, List.set_cons_succ, List.set_cons_zero]
                          refine Held.Walk.skip (by kernel_rfl) (by kernel_rfl) (by kernel_rfl) (by go_simp) hS2 ?_
                          simp only [Act.put, List.setIfInBounds_toArray, List.set_cons_succ, List.set_cons_zero]
                          refine Held.Walk.takeIf (.bool false) (by kernel_rfl) (by kernel_rfl) (by kernel_rfl) (by go_simp) (fun w' hw' => by go_simp) hS2 ?_
                          simp only [Act.put, List.setIfInBounds_toArray, List.set_cons_succ, List.set_cons_zero]
                          refine Held.Walk.take (.bool false) (by kernel_rfl) (by kernel_rfl) (by kernel_rfl) rfl (fun w' hw' => by go_simp) hS2 ?_
                          simp only [Act.put, List.setIfInBounds_toArray, List.set_cons_succ, List.set_cons_zero]
                          refine Held.Walk.nil (by kernel_rfl) ?_
                          go_wp2
                          exact ⟨⟨j + 1, by go_num, by omega, hFx.then0 hS2⟩, by simp [intOf]; omega⟩
                      · have hjc2 : j = c q + 20 := by omega
                        go_wp2
                        exact ⟨⟨q + 1, by go_num, by omega, hFx⟩, by simp [intOf]; omega⟩
                  · obtain rfl : M = q := by omega
                    go_wp2
                    go_loopw [14] (fun v14 wx => ∃ u : Nat, v14 = .int .i64 u ∧ u ≤ i ∧ Fr Nil wo wx) (fun v _ => i - (intOf v).toNat)
                    case atStart => exact ⟨0, rfl, Nat.zero_le _, hFx⟩
                    case round =>
                      clear hFx
                      obtain ⟨u, rfl, hu, hFx⟩ := hrel
                      by_cases hui : u < i
                      · skip
                        have h12 : (u : Int) < 12 := by omega
                        have hin : u < n := by omega
                        have hF1 := hF.then0 (hFr.then0 hFx)
                        have hL' := HL.out.fr0 hF1
                        obtain ⟨b, o, rfl, hb, hcell⟩ := hL'.all.at (by omega)
                        have hci := hcell u hin
                        obtain ⟨hcp1, hcp2⟩ := hL'.cap u hin
                        have hei := hL'.each u hin
                        have hsi := hL'.size u hin
                        have hn3 := Nat.min_le_right (ln u) 300
                        have hn4 := Nat.min_le_left (ln u) 300
                        have hpi := HP.out u
                        obtain ⟨r, hr⟩ : ∃ r, min (ln u) 300 = r := ⟨_, rfl⟩
                        rw [hr] at hn3 hn4 hpi
                        have hfew : ∀ w', Calls Tryd.prog 42 #[.slice (LA u) (ln u) (lc u)] w' fun e w'' => e = .returned (.slice (LA u) r (lc u)) ∧ Fr Nil w' w'' := fun w' => by
                          have := few_calls (LA u) (ln u) (lc u) w' hcp1 hcp2
                          rw [hr] at this
                          exact this
                        have hpk : ∀ w', Fr Nil wr w' → Calls Tryd.prog 43 #[.int .i64 4, .slice (LA u) r (lc u)] w' fun e w'' => ∃ A1 cp1, e = .returned (.slice A1 (P u).length cp1) ∧ SlAt w'' A1 (P u).length (fun j => .string (listF (P u) j)) ∧ Fr Nil w' w'' := fun w' hf => by
                          refine (peaks_calls 4 (LA u) r (lc u) (lf u) w' (by omega) (by omega) hcp2 (fun j hj => Nat.le_trans (hsi j (by omega)) (by decide)) (SlAt.take (hei.fr hf) r hn4)).mono ?_
                          rintro e w'' ⟨V, rfl, hO, hx⟩
                          rw [← hpi] at hO
                          obtain ⟨A1, cp1, rfl, _, _, hs, _⟩ := Own.sl hO
                          exact ⟨A1, cp1, rfl, hs, hx⟩
                        have hrp : ∀ w', Fr Nil wr w' → Calls Tryd.prog 45 #[.int .i64 4, .slice (LA u) r (lc u)] w' fun e w'' => ∃ A1 cp1, e = .returned (.slice A1 (P u).length cp1) ∧ SlAt w'' A1 (P u).length (fun j => .string (listF (P u) j)) ∧ Fr Nil w' w'' := fun w' hf => by
                          refine (rpeaks_calls 4 (LA u) r (lc u) (lf u) w' (by omega) (by omega) hcp2 (fun j hj => hsi j (by omega)) (SlAt.take (hei.fr hf) r hn4) ((hG.fr0 hF1).fr0 hf)).mono ?_
                          rintro e w'' ⟨V, rfl, hO, hx⟩
                          rw [← hpi] at hO
                          obtain ⟨A1, cp1, rfl, _, _, hs, _⟩ := Own.sl hO
                          exact ⟨A1, cp1, rfl, hs, hx⟩
                        have hsm : ∀ A1 cp1 A2 cp2 w', SlAt w' A1 (P u).length (fun j => .string (listF (P u) j)) → SlAt w' A2 (P u).length (fun j => .string (listF (P u) j)) → Calls Tryd.prog 44 #[.slice A1 (P u).length cp1, .slice A2 (P u).length cp2] w' fun e w'' => e = .returned (.bool true) ∧ Fr Nil w' w'' := fun A1 cp1 A2 cp2 w' h1 h2 =>
                          same_calls A1 A2 (P u).length cp1 cp2 (listF (P u)) w' (by have := HPL.out u; omega) h1 h2
                        have HFW := Lib.hid hfew
                        have HPK := Lib.hid hpk
                        have HRP := Lib.hid hrp
                        have HSM := Lib.hid hsm
                        have hu2 : 0 ≤ (u : Int) ∧ (u : Int) < n := by omega
                        clear hfew hpk hrp hsm hpi hr hcell hL' hei hsi
                        go_wp2_with fail
                        have hct : ∀ w', Fr Nil wr w' → w'.cell? ⟨b, o + u, none⟩ = some (.slice (LA u) (ln u) (lc u)) := fun w' hf => by
                          obtain ⟨b', o', e', hb', hcell'⟩ := (HL.out.fr0 (hF1.then0 hf)).all.at (by omega)
                          cases e'
                          exact hcell' u hin
                        refine Held.way (fun w' => Fr Nil wr w') (by kernel_rfl) ?_
                        simp only [List.zipIdx_cons, List.zipIdx_nil, Nat.zero_add, Nat.reduceAdd]
                        have hFi : Fr Nil wr wr.drew := (Fr.refl _ _).drew
                        clear hci
                        generalize wr.drew = w5 at *
                        refine Held.Way.take (.slice (some ⟨b, o, none⟩) n cap) (by kernel_rfl) (by kernel_rfl) (by kernel_rfl) rfl (fun w' hw' => by go_simp) hFi ?_
                        simp only [Act.put, List.setIfInBounds_toArray, List.set_cons_succ, List.set_cons_zero]
                        refine Held.Way.take (.int .i64 u) (by kernel_rfl) (by kernel_rfl) (by kernel_rfl) rfl (fun w' hw' => by go_simp) hFi ?_
                        simp only [Act.put, List.setIfInBounds_toArray, List.set_cons_succ, List.set_cons_zero]
                        refine Held.Way.take (.pointer (some ⟨b, o + u, none⟩)) (by kernel_rfl) (by kernel_rfl) (by kernel_rfl) rfl (fun w' hw' => by go_simp) hFi ?_
                        simp only [Act.put, List.setIfInBounds_toArray, List.set_cons_succ, List.set_cons_zero]
                        refine Held.Way.take (.slice (LA u) (ln u) (lc u)) (by kernel_rfl) (by kernel_rfl) (by kernel_rfl) rfl (fun w' hw' => by have c := hct w' hw'; go_simp) hFi ?_
                        simp only [Act.put, List.setIfInBounds_toArray, List.set_cons_succ, List.set_cons_zero]
                        refine Held.Way.bring2 ?_
                        refine Held.Way.take (.slice (some ⟨b, o, none⟩) n cap) (by kernel_rfl) (by kernel_rfl) (by kernel_rfl) rfl (fun w' hw' => by go_simp) hFi ?_
                        simp only [Act.put, List.setIfInBounds_toArray, List.set_cons_succ, List.set_cons_zero]
                        refine Held.Way.bring2 ?_
                        refine Held.Way.take (.int .i64 u) (by kernel_rfl) (by kernel_rfl) (by kernel_rfl) rfl (fun w' hw' => by go_simp) hFi ?_
                        simp only [Act.put, List.setIfInBounds_toArray, List.set_cons_succ, List.set_cons_zero]
                        refine Held.Way.bring2 ?_
                        refine Held.Way.take (.pointer (some ⟨b, o + u, none⟩)) (by kernel_rfl) (by kernel_rfl) (by kernel_rfl) rfl (fun w' hw' => by go_simp) hFi ?_
                        simp only [Act.put, List.setIfInBounds_toArray, List.set_cons_succ, List.set_cons_zero]
                        refine Held.Way.bring2 ?_
                        refine Held.Way.take (.slice (LA u) (ln u) (lc u)) (by kernel_rfl) (by kernel_rfl) (by kernel_rfl) rfl (fun w' hw' => by have c := hct w' hw'; go_simp) hFi ?_
                        simp only [Act.put, List.setIfInBounds_toArray, List.set_cons_succ, List.set_cons_zero]
                        refine Held.Way.callIf 42 #[.slice (LA u) (ln u) (lc u)] (by kernel_rfl) rfl (by go_simp) ?_
                        refine (HFW.out _).mono ?_
                        rintro e w6 ⟨rfl, hx⟩
                        refine ⟨_, rfl, hFi.then0 hx, ?_⟩
                        replace hFi := hFi.then0 hx
                        clear hx
                        simp only [Act.put, List.setIfInBounds_toArray, List.set_cons_succ, List.set_cons_zero]
                        refine Held.Way.callIf 43 #[.int .i64 4, .slice (LA u) r (lc u)] (by kernel_rfl) rfl (by go_simp) ?_
                        refine (HPK.out _ hFi).mono ?_
                        rintro e w6 ⟨A1, cp1, rfl, hs1, hx⟩
                        refine ⟨_, rfl, hFi.then0 hx, ?_⟩
                        replace hFi := hFi.then0 hx
                        clear hx
                        simp only [Act.put, List.setIfInBounds_toArray, List.set_cons_succ, List.set_cons_zero]
                        refine Held.Way.callIf 42 #[.slice (LA u) (ln u) (lc u)] (by kernel_rfl) rfl (by go_simp) ?_
                        refine (HFW.out _).mono ?_
                        rintro e w6 ⟨rfl, hx⟩
                        refine ⟨_, rfl, hFi.then0 hx, ?_⟩
                        replace hFi := hFi.then0 hx
                        replace hs1 := hs1.fr hx
                        clear hx
                        simp only [Act.put, List.setIfInBounds_toArray, List.set_cons_succ, List.set_cons_zero]
                        refine Held.Way.callIf 45 #[.int .i64 4, .slice (LA u) r (lc u)] (by kernel_rfl) rfl (by go_simp) ?_
                        refine (HRP.out _ hFi).mono ?_
                        rintro e w6 ⟨UA, uc, rfl, hUS, hx⟩
                        refine ⟨_, rfl, hFi.then0 hx, ?_⟩
                        replace hFi := hFi.then0 hx
                        replace hs1 := hs1.fr hx
                        clear hx
                        simp only [Act.put, List.setIfInBounds_toArray, List.set_cons_succ, List.set_cons_zero]
                        refine Held.Way.callIf 44 #[.slice A1 (P u).length cp1, .slice UA (P u).length uc] (by kernel_rfl) rfl (by go_simp) ?_
                        refine (HSM.out A1 cp1 UA uc _ hs1 hUS).mono ?_
                        rintro e w7 ⟨rfl, hx⟩
                        refine ⟨_, rfl, hFi.then0 hx, ?_⟩
                        replace hFi := hFi.then0 hx
                        clear hx hs1 hUS
                        simp only [Act.put, List.setIfInBounds_toArray, List.set_cons_succ, List.set_cons_zero]
                        refine Held.Way.take (.bool false) (by kernel_rfl) (by kernel_rfl) (by kernel_rfl) rfl (fun w' hw' => by go_simp) hFi ?_
                        simp only [Act.put, List.setIfInBounds_toArray, List.set_cons_succ, List.set_cons_zero]
                        refine Held.Way.nil (by kernel_rfl) ?_
                        go_wp2
                        exact ⟨⟨u + 1, by go_num, by omega, hFx.then0 hFi⟩, by simp [intOf]; omega⟩
                      · have hui2 : u = i := by omega
                        subst hui2
                        go_wp2
                        go_ret
                        exact ⟨rfl, hF.then0 (hFr.then0 hFx)⟩

end Go.Proofs.YtldiecblcnoleaaDoor.Plain
