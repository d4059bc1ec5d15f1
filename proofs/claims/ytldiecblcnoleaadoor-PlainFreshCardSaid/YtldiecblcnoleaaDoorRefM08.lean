/- The reference's layer 8: Mountains, Peaks. Conditions: the list can be read; sizes; the reference's tables. -/
import Derived.Test.YtldiecblcnoleaaDoorRefT08
namespace Go.Proofs.YtldiecblcnoleaaDoor.Plain
open Go.RowKit Go.Proofs.YtldiecblcnoleaaDoor.Mem Go.Proofs.YtldiecblcnoleaaDoor.Sha Go.Proofs.YtldiecblcnoleaaDoor.Hash
set_option linter.unusedVariables false
set_option linter.unusedSimpArgs false

/-- The mountains of n items from a on: where each begins, how many items it has. -/
def mtnL : Nat → Nat → Nat → List (Nat × Nat)
  | 0, _, _ => []
  | g + 1, a, n => if n = 0 then [] else (a, 2 ^ n.log2) :: mtnL g (a + 2 ^ n.log2) (n - 2 ^ n.log2)

theorem peaksL_mtn (k : Int) (f : Nat → ByteArray) : ∀ g a n, peaksL k f g a n = (mtnL g a n).map fun p => treeD k f p.2.log2 p.1
  | 0, _, _ => rfl
  | g + 1, a, n => by
    simp only [peaksL, mtnL]
    split
    · rfl
    · rw [peaksL_mtn k f g, List.map_cons, Nat.log2_two_pow]

theorem mtnL_zero (g a : Nat) : mtnL g a 0 = [] := by cases g <;> rfl

theorem mtnL_fuel : ∀ (n g a : Nat), n ≤ g → mtnL g a n = mtnL n a n := by
  intro n
  induction n using Nat.strongRecOn with
  | _ n ih =>
    intro g a hg
    rcases Nat.eq_zero_or_pos n with h0 | h0
    · subst h0
      rw [mtnL_zero, mtnL_zero]
    · obtain ⟨g, rfl⟩ : ∃ m, g = m + 1 := ⟨g - 1, by omega⟩
      obtain ⟨m, rfl⟩ : ∃ m, n = m + 1 := ⟨n - 1, by omega⟩
      have hp := Nat.two_pow_pos (m + 1).log2
      simp only [mtnL]
      rw [if_neg (by omega), if_neg (by omega)]
      congr 1
      rw [ih _ (by omega) g _ (by omega), ih _ (by omega) m _ (by omega)]

theorem mtnL_step (n a j P : Nat) (h0 : 0 < n) (hP : P = 2 ^ j) (h1 : P ≤ n) (h2 : n < 2 * P) : mtnL n a n = (a, P) :: mtnL (n - P) (a + P) (n - P) := by
  have hl : n.log2 = j := (Nat.log2_eq_iff (by omega)).2 ⟨by omega, by rw [Nat.pow_succ]; omega⟩
  obtain ⟨m, rfl⟩ : ∃ m, n = m + 1 := ⟨n - 1, by omega⟩
  have hp := Nat.two_pow_pos j
  simp only [mtnL]
  rw [if_neg (by omega), hl, ← hP, mtnL_fuel (m + 1 - P) m _ (by omega)]

theorem mtnL_few : ∀ g a n, (mtnL g a n).length ≤ g
  | 0, _, _ => Nat.le_refl _
  | g + 1, a, n => by
    simp only [mtnL]
    split
    · exact Nat.zero_le _
    · have := mtnL_few g (a + 2 ^ n.log2) (n - 2 ^ n.log2)
      simp
      omega

theorem mtnL_in : ∀ g a n p, p ∈ mtnL g a n → a ≤ p.1 ∧ p.1 + p.2 ≤ a + n ∧ p.2 = 2 ^ p.2.log2
  | 0, _, _, _, h => by cases h
  | g + 1, a, n, p, h => by
    simp only [mtnL] at h
    split at h
    · cases h
    · rename_i hn
      have hle : 2 ^ n.log2 ≤ n := Nat.log2_self_le hn
      rcases List.mem_cons.1 h with rfl | h
      · exact ⟨Nat.le_refl _, by show a + 2 ^ n.log2 ≤ a + n; omega, by rw [Nat.log2_two_pow]⟩
      · obtain ⟨h1, h2, h3⟩ := mtnL_in g _ _ p h
        generalize 2 ^ n.log2 = Z at *
        exact ⟨by omega, by omega, h3⟩

def pairsF (l : List (Nat × Nat)) (j : Nat) : Value := .int .i64 ((if j % 2 = 0 then (l.getD (j / 2) (0, 0)).1 else (l.getD (j / 2) (0, 0)).2 : Nat) : Int)

theorem pairsF_grow (l : List (Nat × Nat)) (p : Nat × Nat) {w : World} {B : Nat} {V : Value} (h : Own w B V 97 2 (l.length + 1) (joinF (l.length * 2) (pairsF l) fun j => if j = 0 then .int .i64 (p.1 : Int) else .int .i64 (p.2 : Int))) :
    Own w B V 97 2 (l ++ [p]).length (pairsF (l ++ [p])) := by
  rw [List.length_append]
  refine h.congr fun j hj => ?_
  have hj : j < (l.length + 1) * 2 := hj
  unfold joinF pairsF
  by_cases e : j < l.length * 2
  · have e2 : j / 2 < l.length := by omega
    rw [if_pos e]
    simp [List.getD_eq_getElem?_getD, List.getElem?_append, e2]
  · have e2 : j / 2 = l.length := by omega
    rw [if_neg e, e2]
    have e3 : j = l.length * 2 ∨ j = l.length * 2 + 1 := by omega
    rcases e3 with rfl | rfl
    · simp
    · simp [show (l.length * 2 + 1) % 2 = 1 by omega]

theorem info_pair : (Tryd.prog.info? 97).map (fun i => (i.zero, i.size, i.bytes)) = some (some (.agg #[.int .i64 0, .int .i64 0]), 2, 16) := by kernel_rfl

set_option maxRecDepth 100000 in
set_option maxHeartbeats 1000000 in
theorem mountains_calls (n : Nat) (w : World) (hn : n ≤ 4398046511104) :
    Calls Tryd.prog 69 #[.int .i64 (n : Int)] w fun e w' => ∃ V, e = .returned V ∧ Own w' w.heap.size V 97 2 (mtnL n 0 n).length (pairsF (mtnL n 0 n)) ∧ Fr Nil w w' := by
  obtain ⟨L, hL⟩ : ∃ L, L = mtnL n 0 n := ⟨_, rfl⟩
  rw [← hL]
  have HL := Lib.hid hL
  clear hL
  go_enter Tryd.func69, Tryd.ntmps69
  go_wp2
  go_loopw [3, 4] (fun v3 v4 wr => ∃ (a r : Nat) (l : List (Nat × Nat)) (V : Value), V = v3 ∧ v4 = .int .i64 a ∧ a + r = n ∧ l.length ≤ a ∧ Hid (L = l ++ mtnL r a r) ∧ Own wr w.heap.size V 97 2 l.length (pairsF l) ∧ Fr Nil w wr) (fun _ v _ => n - (intOf v).toNat)
  case atStart => exact ⟨0, n, [], _, rfl, rfl, by omega, Nat.le_refl _, HL, Own.nil _ _ _ _ _, Fr.refl _ _⟩
  case round =>
    obtain ⟨a, r, l, V, rfl, rfl, har, hla, HLL, hO, hF⟩ := hrel
    by_cases hr0 : 0 < r
    · have han : a < n := by omega
      go_wp2
      obtain ⟨wo, hwo⟩ : ∃ wo : World, wo = wr := ⟨_, rfl⟩
      rw [← hwo] at hO hF ⊢
      clear hwo
      go_loop [5] (fun v5 => ∃ P j : Nat, v5 = .int .i64 P ∧ Hid (P = 2 ^ j) ∧ 0 < P ∧ P ≤ r) (fun v => r - (intOf v).toNat)
      case atStart => exact ⟨1, 0, rfl, rfl, by omega, by omega⟩
      case round =>
        obtain ⟨P, j, rfl, HP, hP0, hPr⟩ := hrel
        by_cases hmore : 2 * P ≤ r
        · have hmore2 : 2 * (P : Int) ≤ (n : Int) - a := by omega
          go_wp2_with fail
          refine ⟨⟨2 * P, j + 1, congrArg (Value.int .i64) (by omega), ?_, by omega, by omega⟩, by simp [intOf]; omega⟩
          show 2 * P = 2 ^ (j + 1)
          rw [HP.out, Nat.pow_succ, Nat.mul_comm]
        · have hmore2 : ¬ 2 * (P : Int) ≤ (n : Int) - a := by omega
          have hnw := new_two wo (.int .i64 (a : Int)) (.int .i64 (P : Int)) 97
          have hwb := hF.size
          go_wp2_with (at_builtin; go_must (refine wpList_append rfl _ _ 95 rfl w.heap.size 97 2 16 (.agg #[.int .i64 0, .int .i64 0]) Tryd.underlying95 info_pair rfl (by omega) V l.length (pairsF l) rfl (hO.fr0 (Fr.alloc1 _ _)) wo.heap.size 0 1 1 (fun j => if j = 0 then .int .i64 (a : Int) else .int .i64 (P : Int)) rfl hnw (fun j _ => by show (if j = 0 then _ else _ : Value).oneCell' = true; split <;> rfl) (by omega) (by omega) (by simp; omega) ?_); intro V' w2 hO2 hF2 _; clear hnw)
          refine ⟨⟨a + P, r - P, l ++ [(a, P)], V', rfl, by go_num, by omega, by simp; omega, ?_, pairsF_grow l (a, P) hO2, (hF.alloc _).thenOwn (hO.fr0 (Fr.alloc1 _ _)) (Nat.le_refl _) hF2⟩, by simp [intOf]; omega⟩
          show L = (l ++ [_]) ++ _
          rw [HLL.out, mtnL_step r a j P hr0 HP.out hPr (by omega), List.append_assoc]
          rfl
    · have hr00 : r = 0 := by omega
      subst hr00
      have han : ¬ a < n := by omega
      go_wp2
      go_ret
      refine ⟨V, rfl, ?_, hF⟩
      rw [HLL.out, mtnL_zero, List.append_nil]
      exact hO

theorem Own.sl2 {w : World} {B n : Nat} {V : Value} {e : Nat} {f : Nat → Value} (h : Own w B V e 2 n f) : ∃ A cap, V = .slice A n cap ∧ n ≤ cap ∧ cap ≤ 9223372036854775807 ∧ SlAt w A (n * 2) f := by
  rcases h.open with ⟨rfl, rfl⟩ | ⟨g, cap, N, f', rfl, _, hc, hm, hN, hH, hf⟩
  · exact ⟨none, 0, rfl, Nat.le_refl _, by omega, .inl rfl⟩
  · exact ⟨_, cap, rfl, hc, hm, (hH.sl 0 (n * 2) (by omega)).congr fun i hi => by rw [Nat.zero_add]; exact hf i (by omega)⟩

theorem strsF_take (L : List ByteArray) (i : Nat) (h : i < L.length) {w : World} {B : Nat} {V : Value} (hO : Own w B V 9 1 (i + 1) (joinF (i * 1) (strsF L) fun _ => .string (L.getD i ⟨#[]⟩))) : Own w B V 9 1 (i + 1) (strsF L) :=
  hO.congr fun j hj => by
    unfold joinF
    by_cases e : j < i * 1
    · rw [if_pos e]
    · rw [if_neg e, show j = i by omega]
      rfl

set_option maxRecDepth 100000 in
set_option maxHeartbeats 2000000 in
theorem rpeaks_calls (k : Int) (A : Option Addr) (n cap : Nat) (f : Nat → ByteArray) (w : World) (hn : n ≤ 4398046511104) (hc : n ≤ cap) (hc2 : cap ≤ 9223372036854775807) (hs : ∀ i, i < n → (f i).size ≤ 9007199254740992) (hA : SlAt w A n (fun i => .string (f i))) (hG : GL w) :
    Calls Tryd.prog 45 #[.int .i64 k, .slice A n cap] w fun e w' => ∃ V, e = .returned V ∧ Own w' w.heap.size V 9 1 (peaksL k f n 0 n).length (strsF (peaksL k f n 0 n)) ∧ Fr Nil w w' := by
  obtain ⟨L, hL⟩ : ∃ L, L = peaksL k f n 0 n := ⟨_, rfl⟩
  rw [← hL]
  have hLm := hL.trans (peaksL_mtn k f n 0 n)
  have hM := mountains_calls n
  have hin := mtnL_in n 0 n
  have hfew := mtnL_few n 0 n
  generalize mtnL n 0 n = M at *
  have hlen : L.length = M.length := by rw [hLm, List.length_map]
  obtain ⟨cnt, hcnt⟩ : ∃ cnt, L.length = cnt := ⟨_, rfl⟩
  rw [hcnt]
  have HLM := Lib.hid hLm
  have HM := Lib.hid hM
  have HIN := Lib.hid hin
  have HCNT := Lib.hid (hcnt.symm.trans hlen)
  have HCL := Lib.hid hcnt
  clear hL hLm hM hin hlen hcnt
  go_enter Tryd.func45, Tryd.ntmps45
  go_wp2_with fail
  refine (HM.out w hn).mono ?_
  rintro e wi ⟨V, rfl, hOM, hF⟩
  rw [← HCNT.out] at hOM hfew
  obtain ⟨MA, cp, rfl, hcp1, hcp2, hMS⟩ := Own.sl2 hOM
  have hwi := hF.size
  clear hOM HM
  go_wp2
  go_loopw [6, 7] (fun v6 v7 wr => ∃ (i : Nat) (U : Value), U = v6 ∧ v7 = .int .i64 i ∧ i ≤ cnt ∧ Own wr wi.heap.size U 9 1 i (strsF L) ∧ Fr Nil wi wr) (fun _ v _ => cnt - (intOf v).toNat)
  case atStart => exact ⟨0, _, rfl, rfl, Nat.zero_le _, Own.nil _ _ _ _ _, Fr.refl _ _⟩
  case round =>
    obtain ⟨i, U, rfl, rfl, hi, hO, hFi⟩ := hrel
    by_cases hlt : i < cnt
    · obtain ⟨a, P, hq⟩ : ∃ a P, M[i]? = some (a, P) := ⟨_, _, List.getElem?_eq_getElem (by have := HCNT.out; omega)⟩
      obtain ⟨hq1, hq2, hq3⟩ := HIN.out (a, P) (List.mem_of_getElem? hq)
      have hP0 : 0 < P := by
        have h3 : P = 2 ^ P.log2 := hq3
        rw [h3]
        exact Nat.two_pow_pos _
      have haP : a + P ≤ n := by have : a + P ≤ 0 + n := hq2; omega
      obtain ⟨g, go, rfl, hgb, hgc⟩ := hMS.at (by omega)
      obtain ⟨b, o, rfl, hb, hcell⟩ := hA.at (by omega)
      have hLi : L.getD i ⟨#[]⟩ = treeD k f P.log2 a := by
        rw [HLM.out, List.getD_eq_getElem?_getD, List.getElem?_map, hq]; rfl
      have cA : wi.cell? ⟨g, go + i * 2, none⟩ = some (.int .i64 (a : Int)) := by
        rw [hgc (i * 2) (by omega)]
        unfold pairsF
        rw [if_pos (by omega), List.getD_eq_getElem?_getD, show i * 2 / 2 = i by omega, hq]; rfl
      have cP : wi.cell? ⟨g, go + (i * 2 + 1), none⟩ = some (.int .i64 (P : Int)) := by
        rw [hgc (i * 2 + 1) (by omega)]
        unfold pairsF
        rw [if_neg (by omega), List.getD_eq_getElem?_getD, show (i * 2 + 1) / 2 = i by omega, hq]; rfl
      have hcA : ∀ w', Fr Nil wi w' → w'.cell? ⟨g, go + i * 2, none⟩ = some (.int .i64 (a : Int)) := fun w' hf => (hf.cell (p := ⟨g, go + i * 2, none⟩) hgb (fun h => h)).trans cA
      have hcP : ∀ w', Fr Nil wi w' → w'.cell? ⟨g, go + (i * 2 + 1), none⟩ = some (.int .i64 (P : Int)) := fun w' hf => (hf.cell (p := ⟨g, go + (i * 2 + 1), none⟩) hgb (fun h => h)).trans cP
      have htree : ∀ w', Fr Nil w w' → Calls Tryd.prog 70 #[.int .i64 k, .slice (some ⟨b, o + a, none⟩) P (cap - a)] w' fun e w'' => e = .returned (.string (L.getD i ⟨#[]⟩)) ∧ Fr Nil w' w'' := fun w' hf => by
        have := rtree_calls k P.log2 P b (o + a) (cap - a) (fun i => f (a + i)) w' hq3 (by omega) (by omega) (by omega) (fun i hi => hs _ (by omega)) (Nat.lt_of_lt_of_le hb hf.size) (fun i hi => by
          rw [hf.cell (p := ⟨b, o + a + i, none⟩) hb (fun h => h), Nat.add_assoc]; exact hcell _ (by omega)) (hG.fr0 hf)
        rw [treeD_shift, Nat.add_zero] at this
        rw [hLi]
        exact this
      have HT := Lib.hid htree
      clear htree hLi cA cP hcell hgc hq hq1 hq2 hq3 hMS hA hs
      obtain ⟨X, hX⟩ : ∃ X, L.getD i ⟨#[]⟩ = X := ⟨_, rfl⟩
      rw [hX] at HT
      have HX := Lib.hid hX
      clear hX
      have hic : 0 ≤ (i : Int) ∧ (i : Int) < cnt := by omega
      have hcl : ¬ (cap = a) := by omega
      have hsum : IntKind.i64.wrap ((a : Int) + P) = (a : Int) + P := IntWalk.i64_in _ (by omega)
      have hb1 : 0 ≤ (a : Int) ∧ (a : Int) ≤ (a : Int) + P ∧ (a : Int) + P ≤ cap := by omega
      have ht1 : ((a : Int) + P).toNat = a + P := by omega
      have ht2 : a + P - a = P := by omega
      go_wp2_with fail
      refine Held.walk (fun w' => Fr Nil wi w') (by kernel_rfl) ?_
      replace hFi := hFi.drew
      replace hO := hO.fr0 (Fr.refl _ _).drew
      generalize wr.drew = w0 at *
      refine Held.Walk.take U (by kernel_rfl) (by kernel_rfl) (by kernel_rfl) rfl (fun w' hw' => by go_simp) hFi ?_
      refine Held.Walk.take (.int .i64 k) (by kernel_rfl) (by kernel_rfl) (by kernel_rfl) rfl (fun w' hw' => by go_simp) hFi ?_
      refine Held.Walk.take (.slice (some ⟨b, o, none⟩) n cap) (by kernel_rfl) (by kernel_rfl) (by kernel_rfl) rfl (fun w' hw' => by go_simp) hFi ?_
      refine Held.Walk.take (.slice (some ⟨g, go, none⟩) cnt cp) (by kernel_rfl) (by kernel_rfl) (by kernel_rfl) rfl (fun w' hw' => by go_simp) hFi ?_
      refine Held.Walk.take (.int .i64 i) (by kernel_rfl) (by kernel_rfl) (by kernel_rfl) rfl (fun w' hw' => by go_simp) hFi ?_
      refine Held.Walk.take (.pointer (some ⟨g, go + i * 2, none⟩)) (by kernel_rfl) (by kernel_rfl) (by kernel_rfl) rfl (fun w' hw' => by go_simp) hFi ?_
      refine Held.Walk.take (.pointer (some ⟨g, go + i * 2, none⟩)) (by kernel_rfl) (by kernel_rfl) (by kernel_rfl) rfl (fun w' hw' => by go_simp) hFi ?_
      refine Held.Walk.take (.int .i64 (a : Int)) (by kernel_rfl) (by kernel_rfl) (by kernel_rfl) rfl (fun w' hw' => by have c := hcA w' hw'; go_simp) hFi ?_
      refine Held.Walk.take (.slice (some ⟨g, go, none⟩) cnt cp) (by kernel_rfl) (by kernel_rfl) (by kernel_rfl) rfl (fun w' hw' => by go_simp) hFi ?_
      refine Held.Walk.take (.int .i64 i) (by kernel_rfl) (by kernel_rfl) (by kernel_rfl) rfl (fun w' hw' => by go_simp) hFi ?_
      refine Held.Walk.take (.pointer (some ⟨g, go + i * 2, none⟩)) (by kernel_rfl) (by kernel_rfl) (by kernel_rfl) rfl (fun w' hw' => by go_simp) hFi ?_
      refine Held.Walk.take (.pointer (some ⟨g, go + i * 2, none⟩)) (by kernel_rfl) (by kernel_rfl) (by kernel_rfl) rfl (fun w' hw' => by go_simp) hFi ?_
      refine Held.Walk.take (.int .i64 (a : Int)) (by kernel_rfl) (by kernel_rfl) (by kernel_rfl) rfl (fun w' hw' => by have c := hcA w' hw'; go_simp) hFi ?_
      refine Held.Walk.take (.slice (some ⟨g, go, none⟩) cnt cp) (by kernel_rfl) (by kernel_rfl) (by kernel_rfl) rfl (fun w' hw' => by go_simp) hFi ?_
      refine Held.Walk.take (.int .i64 i) (by kernel_rfl) (by kernel_rfl) (by kernel_rfl) rfl (fun w' hw' => by go_simp) hFi ?_
      refine Held.Walk.take (.pointer (some ⟨g, go + i * 2, none⟩)) (by kernel_rfl) (by kernel_rfl) (by kernel_rfl) rfl (fun w' hw' => by go_simp) hFi ?_
      refine Held.Walk.take (.pointer (some ⟨g, go + (i * 2 + 1), none⟩)) (by kernel_rfl) (by kernel_rfl) (by kernel_rfl) rfl (fun w' hw' => by go_simp) hFi ?_
      refine Held.Walk.take (.int .i64 (P : Int)) (by kernel_rfl) (by kernel_rfl) (by kernel_rfl) rfl (fun w' hw' => by have c := hcP w' hw'; go_simp) hFi ?_
      refine Held.Walk.take (.int .i64 ((a : Int) + P)) (by kernel_rfl) (by kernel_rfl) (by kernel_rfl) rfl (fun w' hw' => by go_simp) hFi ?_
      refine Held.Walk.take (.slice (some ⟨b, o + a, none⟩) P (cap - a)) (by kernel_rfl) (by kernel_rfl) (by kernel_rfl) rfl (fun w' hw' => by have hcl := hcl; go_simp) hFi ?_
      refine Held.Walk.call 70 #[.int .i64 k, .slice (some ⟨b, o + a, none⟩) P (cap - a)] (by kernel_rfl) rfl (by go_simp) ?_
      refine (HT.out _ (hF.then0 hFi)).mono ?_
      rintro e w1 ⟨rfl, hx⟩
      refine ⟨_, rfl, hFi.then0 hx, ?_⟩
      replace hFi := hFi.then0 hx
      replace hO := hO.fr0 hx
      have hs1 := hFi.size
      clear hx
      simp only [Act.put, List.setIfInBounds_toArray, List.set_cons_succ, List.set_cons_zero]
      refine Held.Walk.value (.slice (some ⟨w1.heap.size, 0, none⟩) 1 1) (w1.alloc (.cells #[.string X] 9)) (by kernel_rfl) rfl (by go_simp) (hFi.alloc _) ?_
      simp only [Act.put, List.setIfInBounds_toArray, List.set_cons_succ, List.set_cons_zero]
      refine Held.Walk.list (by kernel_rfl) rfl ?_
      refine wpList_append rfl _ _ 22 rfl wi.heap.size 9 1 16 (.string ⟨#[]⟩) Tryd.underlying22 info_str rfl (by omega) U i (strsF L) rfl (hO.fr0 (Fr.alloc1 _ _)) w1.heap.size 0 1 1 (fun _ => .string X) rfl (new_one _ _ _) (fun _ _ => rfl) (by omega) (by omega) (by simp; omega) ?_
      intro U' w2 hO2 hF2 _
      have hF3 := (hFi.alloc _).thenOwn (hO.fr0 (Fr.alloc1 _ _)) (Nat.le_refl _) hF2
      refine Held.nil ⟨hF3, ?_⟩
      simp only [Act.put, List.setIfInBounds_toArray, List.set_cons_succ, List.set_cons_zero]
      refine Held.Walk.take U' (by kernel_rfl) (by kernel_rfl) (by kernel_rfl) rfl (fun w' hw' => by go_simp) hF3 ?_
      refine Held.Walk.nil (by kernel_rfl) ?_
      simp only [Act.put, List.setIfInBounds_toArray, List.set_cons_succ, List.set_cons_zero]
      rw [← HX.out] at hO2
      go_wp2
      exact ⟨⟨i + 1, U', rfl, by go_num, by omega, strsF_take L i (by have := HCL.out; omega) hO2, hF3⟩, by simp [intOf]; omega⟩
    · have hin : i = cnt := by omega
      subst hin
      go_wp2
      go_ret
      exact ⟨U, rfl, hO.low hwi, hF.then0 hFi⟩

end Go.Proofs.YtldiecblcnoleaaDoor.Plain
