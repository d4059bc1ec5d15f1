/- The reference's layer 8: its tree. Conditions: the list can be read; sizes; the reference's tables. -/
import Derived.Test.YtldiecblcnoleaaDoorRoot08
import Derived.Test.YtldiecblcnoleaaDoorRef07
import Derived.Test.YtldiecblcnoleaaDoorHeld
namespace Go.Proofs.YtldiecblcnoleaaDoor.Plain
open Go.RowKit Go.Proofs.YtldiecblcnoleaaDoor.Mem Go.Proofs.YtldiecblcnoleaaDoor.Sha Go.Proofs.YtldiecblcnoleaaDoor.Hash
set_option linter.unusedVariables false
set_option linter.unusedSimpArgs false

/-- The trees of height j. -/
def rowF (k : Int) (f : Nat → ByteArray) (j i : Nat) : Value := .string (treeD k f j (i * 2 ^ j))

theorem rowF_grow (k : Int) (f : Nat → ByteArray) (j m : Nat) {w : World} {B : Nat} {V : Value} (h : Own w B V 9 1 (m + 1) (joinF (m * 1) (rowF k f j) fun _ => rowF k f j m)) : Own w B V 9 1 (m + 1) (rowF k f j) :=
  h.congr fun i hi => by
    unfold joinF
    by_cases e : i < m * 1
    · rw [if_pos e]
    · rw [if_neg e, show i = m by omega]

theorem rowF_next (k : Int) (f : Nat → ByteArray) (j i : Nat) : dig k (nodeT (treeD k f j (2 * i * 2 ^ j)) (treeD k f j ((2 * i + 1) * 2 ^ j))) = treeD k f (j + 1) (i * 2 ^ (j + 1)) := by
  show _ = dig k (nodeT (treeD k f j (i * 2 ^ (j + 1))) (treeD k f j (i * 2 ^ (j + 1) + 2 ^ j)))
  have e1 : i * 2 ^ (j + 1) = 2 * i * 2 ^ j := by rw [Nat.pow_succ, Nat.mul_comm (2 ^ j) 2, ← Nat.mul_assoc, Nat.mul_comm i 2]
  rw [e1, Nat.add_mul, Nat.one_mul]

/-- A row of m trees of height j lies in a block of its own. -/
def RowAt (w : World) (B : Nat) (k : Int) (f : Nat → ByteArray) (j m : Nat) (V : Value) : Prop :=
  ∃ g cp N F, V = .slice (some ⟨g, 0, none⟩) m cp ∧ B ≤ g ∧ m ≤ cp ∧ cp ≤ 9223372036854775807 ∧ m ≤ N ∧ Has w g N 9 F ∧ ∀ i, i < m → F i = rowF k f j i

theorem RowAt.low {w : World} {B B' m j : Nat} {V : Value} {k : Int} {f : Nat → ByteArray} (h : RowAt w B k f j m V) (hB : B' ≤ B) : RowAt w B' k f j m V := by
  obtain ⟨g, cp, N, F, h1, h2, h3⟩ := h
  exact ⟨g, cp, N, F, h1, by omega, h3⟩

theorem RowAt.mk {w : World} {B m j : Nat} {V : Value} {k : Int} {f : Nat → ByteArray} (h : Own w B V 9 1 m (rowF k f j)) (hm : 0 < m) : RowAt w B k f j m V := by
  rcases h.open with ⟨_, h0⟩ | ⟨g, cp, N, F, rfl, hB, h1, h2, h3, hH, hF⟩
  · omega
  · exact ⟨g, cp, N, F, rfl, hB, h1, h2, by omega, hH, fun i hi => hF i (by omega)⟩

set_option maxRecDepth 100000 in
set_option maxHeartbeats 1000000 in
theorem rtree_calls (k : Int) (h n : Nat) (b o cap : Nat) (f : Nat → ByteArray) (w : World) (hn : n = 2 ^ h) (hn2 : n ≤ 4398046511104) (hc : n ≤ cap) (hc2 : cap ≤ 9223372036854775807) (hs : ∀ i, i < n → (f i).size ≤ 9007199254740992) (hb : b < w.heap.size) (hcell : ∀ i, i < n → w.cell? ⟨b, o + i, none⟩ = some (.string (f i))) (hG : GL w) :
    Calls Tryd.prog 70 #[.int .i64 k, .slice (some ⟨b, o, none⟩) n cap] w fun e w' => e = .returned (.string (treeD k f h 0)) ∧ Fr Nil w w' := by
  have HN := Lib.hid hn
  have hn0 : 0 < n := by rw [hn]; exact Nat.two_pow_pos h
  have HC := Lib.hid hcell
  have HS := Lib.hid hs
  clear hn hcell hs
  go_enter Tryd.func70, Tryd.ntmps70
  go_wp2
  go_loopw [5, 6] (fun v5 v6 wr => ∃ (i : Nat) (V : Value), V = v5 ∧ v6 = .int .i64 i ∧ i ≤ n ∧ Own wr w.heap.size V 9 1 i (rowF k f 0) ∧ Fr Nil w wr) (fun _ v _ => n - (intOf v).toNat)
  case atStart => exact ⟨0, _, rfl, rfl, Nat.zero_le _, Own.nil _ _ _ _ _, Fr.refl _ _⟩
  case round =>
    obtain ⟨i, V, rfl, rfl, hi, hO, hF⟩ := hrel
    by_cases hlt : i < n
    · have hci : wr.cell? ⟨b, o + i, none⟩ = some (.string (f i)) := (hF.cell (p := ⟨b, o + i, none⟩) hb (fun h => h)).trans (HC.out i hlt)
      have hsi := HS.out i hlt
      go_wp2_with fail
      refine (rleaf_dig k (f i) _ (by omega) (hG.fr0 hF)).mono ?_
      rintro e w1 ⟨rfl, hx⟩
      replace hF := hF.then0 hx
      replace hO := hO.fr0 hx
      have hwb := hF.size
      clear hx hci hsi
      go_wp2_with (at_builtin; go_must (refine wpList_append rfl _ _ 22 rfl w.heap.size 9 1 16 (.string ⟨#[]⟩) Tryd.underlying22 info_str rfl (by omega) V i (rowF k f 0) rfl (hO.fr0 (Fr.alloc1 _ _)) w1.heap.size 0 1 1 (fun _ => rowF k f 0 i) rfl (fun j hj => (new_one _ _ _ j hj).trans (by unfold rowF treeD; rw [Nat.pow_zero, Nat.mul_one])) (fun _ _ => rfl) (by omega) (by omega) (by simp; omega) ?_); intro V' w2 hO2 hF2 _)
      exact ⟨⟨i + 1, V', rfl, by go_num, by omega, rowF_grow k f 0 i hO2, (hF.alloc _).thenOwn (hO.fr0 (Fr.alloc1 _ _)) (Nat.le_refl _) hF2⟩, by simp [intOf]; omega⟩
    · have hin : i = n := by omega
      subst hin
      go_wp2
      obtain ⟨wo, hwo⟩ : ∃ wo : World, wo = wr := ⟨_, rfl⟩
      rw [← hwo] at hO hF ⊢
      clear hwo
      obtain hRow := RowAt.mk hO hn0
      clear hO hlt hi
      go_loopw [5] (fun v5 wr => ∃ (j m : Nat) (V : Value), V = v5 ∧ Hid (j ≤ h ∧ m = 2 ^ (h - j)) ∧ 0 < m ∧ m ≤ i ∧ RowAt wr w.heap.size k f j m V ∧ Fr Nil w wr) (fun v _ => sliceLen v)
      case atStart => exact ⟨0, i, V, rfl, ⟨Nat.zero_le _, HN.out⟩, hn0, Nat.le_refl _, hRow, hF⟩
      case round =>
        clear hRow hF
        obtain ⟨j, m, V, rfl, HM, hm0, hmi, ⟨g, cp, N, F, rfl, hBg, hmc, hcp, hmN, hH, hFv⟩, hF⟩ := hrel
        by_cases hm1 : 1 < m
        · obtain ⟨M, hM⟩ : ∃ M, m = 2 * M := by
            obtain ⟨h1, h2⟩ := HM.out
            have : h - j ≠ 0 := fun h3 => by rw [h3] at h2; simp at h2; omega
            exact ⟨2 ^ (h - j - 1), by rw [h2, show h - j = (h - j - 1) + 1 by omega, Nat.pow_succ, Nat.mul_comm]; rfl⟩
          have HMM := Lib.hid hM
          clear hM
          go_wp2
          obtain ⟨wi, hwi⟩ : ∃ wi : World, wi = wr := ⟨_, rfl⟩
          rw [← hwi] at hH hF ⊢
          clear hwi
          have hwi := hF.size
          go_loopw [7, 8] (fun v7 v8 wr => ∃ (p : Nat) (U : Value), U = v7 ∧ v8 = .int .i64 ((2 * p : Nat) : Int) ∧ 2 * p ≤ m ∧ Own wr wi.heap.size U 9 1 p (rowF k f (j + 1)) ∧ Fr Nil wi wr) (fun _ v _ => m - (intOf v).toNat)
          case atStart => exact ⟨0, _, rfl, rfl, Nat.zero_le _, Own.nil _ _ _ _ _, Fr.refl _ _⟩
          case round =>
            obtain ⟨p, U, rfl, rfl, hp, hO, hFi⟩ := hrel
            obtain ⟨P, hP⟩ : ∃ P, 2 * p = P := ⟨_, rfl⟩
            rw [hP] at hp ⊢
            have HP := Lib.hid hP
            clear hP
            by_cases hlt : P + 1 < m
            · have hlt2 : (P : Int) + 1 < m := by omega
              have hw1 : IntKind.i64.wrap ((P : Int) + 1) = (P : Int) + 1 := IntWalk.i64_in _ (by omega)
              go_wp2_with fail
              have hX : F P = .string (treeD k f j (2 * p * 2 ^ j)) := by rw [hFv P (by omega), HP.out]; rfl
              have hY : F (P + 1) = .string (treeD k f j ((2 * p + 1) * 2 ^ j)) := by rw [hFv (P + 1) (by omega), HP.out]; rfl
              have hXY := rowF_next k f j p
              have sX := treeD_small k f j (2 * p * 2 ^ j)
              have sY := treeD_small k f j ((2 * p + 1) * 2 ^ j)
              generalize treeD k f j (2 * p * 2 ^ j) = X at *
              generalize treeD k f j ((2 * p + 1) * 2 ^ j) = Y at *
              have hcX : ∀ w', Fr Nil wi w' → w'.cell? ⟨g, P, none⟩ = some (.string X) := fun w' hf => by rw [(hf.has hH (fun h => h)).cell P (by omega), hX]
              have hcY : ∀ w', Fr Nil wi w' → w'.cell? ⟨g, P + 1, none⟩ = some (.string Y) := fun w' hf => by rw [(hf.has hH (fun h => h)).cell (P + 1) (by omega), hY]
              have hPm : 0 ≤ (P : Int) ∧ (P : Int) < m := by omega
              have hPm1 : 0 ≤ (P : Int) + 1 ∧ (P : Int) + 1 < m := by omega
              have hPt : ((P : Int) + 1).toNat = P + 1 := by omega
              have HXY := Lib.hid hXY
              clear hXY hX hY
              refine Held.walk (fun w' => Fr Nil wi w') (by kernel_rfl) ?_
              replace hFi := hFi.drew
              replace hO := hO.fr0 (Fr.refl _ _).drew
              generalize wr.drew = w0 at *
              refine Held.Walk.take U (by kernel_rfl) (by kernel_rfl) (by kernel_rfl) rfl (fun w' hw' => by go_simp) hFi ?_
              refine Held.Walk.take (.int .i64 k) (by kernel_rfl) (by kernel_rfl) (by kernel_rfl) rfl (fun w' hw' => by go_simp) hFi ?_
              refine Held.Walk.take (.slice (some ⟨g, 0, none⟩) m cp) (by kernel_rfl) (by kernel_rfl) (by kernel_rfl) rfl (fun w' hw' => by go_simp) hFi ?_
              refine Held.Walk.take (.int .i64 P) (by kernel_rfl) (by kernel_rfl) (by kernel_rfl) rfl (fun w' hw' => by go_simp) hFi ?_
              refine Held.Walk.take (.pointer (some ⟨g, P, none⟩)) (by kernel_rfl) (by kernel_rfl) (by kernel_rfl) rfl (fun w' hw' => by go_simp) hFi ?_
              refine Held.Walk.take (.string X) (by kernel_rfl) (by kernel_rfl) (by kernel_rfl) rfl (fun w' hw' => by have c := hcX w' hw'; go_simp) hFi ?_
              refine Held.Walk.take (.slice (some ⟨g, 0, none⟩) m cp) (by kernel_rfl) (by kernel_rfl) (by kernel_rfl) rfl (fun w' hw' => by go_simp) hFi ?_
              refine Held.Walk.take (.int .i64 P) (by kernel_rfl) (by kernel_rfl) (by kernel_rfl) rfl (fun w' hw' => by go_simp) hFi ?_
              refine Held.Walk.take (.int .i64 ((P : Int) + 1)) (by kernel_rfl) (by kernel_rfl) (by kernel_rfl) rfl (fun w' hw' => by go_simp) hFi ?_
              refine Held.Walk.take (.pointer (some ⟨g, P + 1, none⟩)) (by kernel_rfl) (by kernel_rfl) (by kernel_rfl) rfl (fun w' hw' => by go_simp) hFi ?_
              refine Held.Walk.take (.string Y) (by kernel_rfl) (by kernel_rfl) (by kernel_rfl) rfl (fun w' hw' => by have c := hcY w' hw'; go_simp) hFi ?_
              refine Held.Walk.call 35 #[.int .i64 k, .string X, .string Y] (by kernel_rfl) rfl (by go_simp) ?_
              refine (rnode_dig k X Y _ (by omega) (by omega) (hG.fr0 (hF.then0 hFi))).mono ?_
              rintro e w1 ⟨rfl, hx⟩
              refine ⟨_, rfl, hFi.then0 hx, ?_⟩
              replace hFi := hFi.then0 hx
              replace hO := hO.fr0 hx
              have hs1 := hFi.size
              clear hx
              simp only [Act.put, List.setIfInBounds_toArray, List.set_cons_succ, List.set_cons_zero]
              refine Held.Walk.value (.slice (some ⟨w1.heap.size, 0, none⟩) 1 1) (w1.alloc (.cells #[.string (dig k (nodeT X Y))] 9)) (by kernel_rfl) rfl (by go_simp) (hFi.alloc _) ?_
              simp only [Act.put, List.setIfInBounds_toArray, List.set_cons_succ, List.set_cons_zero]
              refine Held.Walk.list (by kernel_rfl) rfl ?_
              refine wpList_append rfl _ _ 22 rfl wi.heap.size 9 1 16 (.string ⟨#[]⟩) Tryd.underlying22 info_str rfl (by omega) U p (rowF k f (j + 1)) rfl (hO.fr0 (Fr.alloc1 _ _)) w1.heap.size 0 1 1 (fun _ => rowF k f (j + 1) p) rfl (fun j' hj' => (new_one _ _ _ j' hj').trans (by rw [HXY.out]; rfl)) (fun _ _ => rfl) (by have := HP.out; omega) (by have := HP.out; omega) (by simp; omega) ?_
              intro U' w2 hO2 hF2 _
              have hF3 := (hFi.alloc _).thenOwn (hO.fr0 (Fr.alloc1 _ _)) (Nat.le_refl _) hF2
              refine Held.nil ⟨hF3, ?_⟩
              simp only [Act.put, List.setIfInBounds_toArray, List.set_cons_succ, List.set_cons_zero]
              refine Held.Walk.take U' (by kernel_rfl) (by kernel_rfl) (by kernel_rfl) rfl (fun w' hw' => by go_simp) hF3 ?_
              refine Held.Walk.nil (by kernel_rfl) ?_
              simp only [Act.put, List.setIfInBounds_toArray, List.set_cons_succ, List.set_cons_zero]
              go_wp2
              exact ⟨⟨p + 1, U', rfl, congrArg (Value.int .i64) (by have := HP.out; omega), by have := HP.out; have := HMM.out; omega, rowF_grow k f (j + 1) p hO2, hF3⟩, by simp [intOf]; omega⟩
            · have hpm : P = m := by have := HMM.out; have := HP.out; omega
              have hpM : p = M := by have := HMM.out; have := HP.out; omega
              go_wp2
              have hM0 : 0 < M := by have := HMM.out; omega
              rw [hpM] at hO
              have hR := RowAt.mk hO hM0
              have hsl : sliceLen U = M := by
                obtain ⟨g2, cp2, _, _, rfl, _⟩ := hR
                rfl
              refine ⟨⟨j + 1, M, U, rfl, ?_, hM0, by have := HMM.out; omega, hR.low hwi, hF.then0 hFi⟩, by rw [hsl]; show M < m; have := HMM.out; omega⟩
              obtain ⟨h1, h2⟩ := HM.out
              have h3 := HMM.out
              have h4 : h - j ≠ 0 := fun h5 => by rw [h5] at h2; simp at h2; omega
              refine ⟨by omega, ?_⟩
              rw [show h - j = (h - (j + 1)) + 1 by omega, Nat.pow_succ] at h2
              omega
        · have hm : m = 1 := by omega
          subst hm
          have hj : j = h := by
            obtain ⟨h1, h2⟩ := HM.out
            rcases Nat.eq_zero_or_pos (h - j) with h3 | h3
            · omega
            · have := Nat.pow_le_pow_right (n := 2) (by decide) h3
              omega
          have c0 : wr.cell? ⟨g, 0, none⟩ = some (.string (treeD k f j 0)) := by
            rw [hH.cell 0 (by omega), hFv 0 (by omega)]
            unfold rowF
            rw [Nat.zero_mul]
          subst hj
          go_wp2
          go_ret
          exact ⟨rfl, hF⟩

end Go.Proofs.YtldiecblcnoleaaDoor.Plain
