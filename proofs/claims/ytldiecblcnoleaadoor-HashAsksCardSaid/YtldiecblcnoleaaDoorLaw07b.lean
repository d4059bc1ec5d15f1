/- massiflaw07.HashAsks: it returns true. Conditions: the reference's tables hold what the row lists; the peaks can be read; sizes. -/
import Derived.Test.YtldiecblcnoleaaDoorLaw07
import Derived.Test.YtldiecblcnoleaaDoorOwn
import Derived.Test.YtldiecblcnoleaaDoorLaw01
namespace Go.Proofs.YtldiecblcnoleaaDoor.Law07
open Go.RowKit Go.Proofs.YtldiecblcnoleaaDoor.Mem Go.Proofs.YtldiecblcnoleaaDoor.Sha Go.Proofs.YtldiecblcnoleaaDoor.Hash
set_option linter.unusedVariables false
set_option linter.unusedSimpArgs false

def mark : ByteArray := ⟨#[109, 97, 114, 107]⟩

set_option maxRecDepth 100000 in
theorem roomy_calls (A : Option Addr) (n cap : Nat) (f : Nat → ByteArray) (w : World) (hn : n ≤ 8796093022207) (hA : SlAt w A n (fun i => .string (f i))) (hnil : A = none → n = 0 ∧ cap = 0) :
    Calls Tryd.prog 20 #[.slice A n cap] w fun e w' => ∃ g cap2 N f', e = .returned (.slice (some ⟨g, 0, none⟩) n cap2) ∧ w.heap.size ≤ g ∧ n + 1 ≤ cap2 ∧ cap2 ≤ 9223372036854775807 ∧ n + 1 ≤ N ∧ Has w' g N 9 f' ∧ (∀ j, j < n → f' j = .string (f j)) ∧ f' n = .string mark ∧ Fr Nil w w' := by
  go_enter Tryd.func20, Tryd.ntmps20
  have hA1 : SlAt w A (n * 1) (fun i => .string (f i)) := by rw [Nat.mul_one]; exact hA
  go_wp2_with (first
    | (refine wpList_append_sl rfl _ _ 22 rfl w.heap.size 9 1 16 (.string ⟨#[]⟩) Tryd.underlying22 Law01.info_str rfl (by omega) (.slice none 0 0) 0 (fun _ => .int .i64 0) rfl (Own.nil _ _ _ _ _) A n cap (fun i => .string (f i)) rfl hA1 hnil (fun _ _ => rfl) (by omega) (by omega) (Nat.le_refl _) ?_; intro v1 w1 hO1 hF1; have hF1' : Fr Nil w w1 := hF1.mono (fun _ _ h => by cases h); have hw1 := hF1'.size)
    | (at_builtin; go_must (refine wpList_append rfl _ _ 22 rfl w.heap.size 9 1 16 (.string ⟨#[]⟩) Tryd.underlying22 Law01.info_str rfl (by omega) v1 (0 + n) _ rfl (hO1.fr0 (Fr.alloc1 _ _)) w1.heap.size 0 1 1 (fun _ => .string mark) rfl (new_one _ _ _) (fun _ _ => rfl) (by omega) (by omega) (by simp; omega) ?_); intro v2 w2 hO2 hF2 _; rcases hO2.open with ⟨_, h0⟩ | ⟨g, cap2, N, f', rfl, hg, hkc, hcm, hN, hH, hf'⟩; (exfalso; omega); have hkc2 : n ≤ cap2 := (by omega)))
  go_ret
  have hcm2 : cap2 ≤ 9223372036854775807 := hcm
  refine ⟨g, cap2, N, f', rfl, hg, by omega, hcm2, by omega, hH, fun j hj => ?_, ?_, (hF1'.alloc _).thenOwn (hO1.fr0 (Fr.alloc1 _ _)) (Nat.le_refl _) hF2⟩
  · rw [hf' j (by omega)]
    unfold joinF
    rw [if_pos (by omega), if_neg (by omega), Nat.zero_mul, Nat.sub_zero]
  · rw [hf' n (by omega)]
    unfold joinF
    rw [if_neg (by omega)]

set_option maxRecDepth 100000 in
theorem whole_calls (g n cap2 N : Nat) (f' : Nat → Value) (A : Option Addr) (cap : Nat) (f : Nat → ByteArray) (w : World) (hn : n ≤ 8796093022207) (hH : Has w g N 9 f') (hN : n + 1 ≤ N) (hc2 : n + 1 ≤ cap2) (hc3 : cap2 ≤ 9223372036854775807)
    (hf : ∀ j, j < n → f' j = .string (f j)) (hfn : f' n = .string mark) (hA : SlAt w A n (fun i => .string (f i))) :
    Calls Tryd.prog 40 #[.slice (some ⟨g, 0, none⟩) n cap2, .slice A n cap] w fun e w' => e = .returned (.bool true) ∧ Fr Nil w w' := by
  go_enter Tryd.func40, Tryd.ntmps40
  go_wp2
  go_loopw [5] (fun v5 wr => ∃ j : Nat, j ≤ n ∧ v5 = .int .i64 j ∧ Fr Nil w wr) (fun v _ => n - (intOf v).toNat)
  case atStart => exact ⟨0, Nat.zero_le _, rfl, Fr.refl _ _⟩
  case round =>
    obtain ⟨j, hj, rfl, hF⟩ := hrel
    have hHr := hF.has hH (fun h => h)
    by_cases hlj : j < n
    · obtain ⟨b, o, rfl, hb, hc⟩ := (hA.fr hF).at (by omega)
      have hcj := hc j hlj
      have hcg := hHr.cell j (by omega)
      rw [hf j hlj] at hcg
      clear hc
      go_wp2
      refine QTail.quiet (fun w' => ∃ n, w' = wr.drewN n) (by kernel_rfl) (by kernel_rfl) ⟨1, rfl⟩ ?_
      repeat (first | go_big_quiet_step (fail) | quiet_step (fail))
      refine wpQuiet_nil ?_
      rintro _ ⟨x, rfl⟩
      have hF2 := hF.drewN x
      clear hcj hcg hHr
      generalize wr.drewN x = wx at *
      go_wp2
      exact ⟨⟨j + 1, by omega, by go_num, hF2⟩, by simp [intOf]; omega⟩
    · have hji : j = n := by omega
      subst hji
      have c1 := hHr.cell j (by omega)
      rw [hfn] at c1
      unfold mark at c1
      clear hfn
      go_wp2
      go_ret
      exact ⟨rfl, hF⟩

set_option maxRecDepth 100000 in
set_option maxHeartbeats 2000000 in
theorem hashAsks_calls (k : Int) (a b : ByteArray) (A : Option Addr) (n cap : Nat) (f : Nat → ByteArray) (w : World) (ha : a.size ≤ 9007199254740992) (hb : b.size ≤ 9007199254740992) (hn : n ≤ 8796093022207)
    (hs : ∀ i, i < n → (f i).size ≤ 9007199254740992) (hA : SlAt w A n (fun i => .string (f i))) (hnil : A = none → n = 0 ∧ cap = 0) (hG : GL w) :
    Calls Tryd.prog 6 #[.int .i64 k, .agg #[.string a, .string b], .slice A n cap] w fun e w' => e = .returned (.bool true) ∧ Fr Nil w w' := by
  go_enter Tryd.func6, Tryd.ntmps6
  go_wp2_with fail
  have hbx : Has (w.alloc (.cells #[.string a, .string b] 35)) w.heap.size 2 35 (fun i => .string (if i = 0 then a else b)) := Has.new _ _ _ _ _ rfl (fun i hi => by
    have h : i = 0 ∨ i = 1 := by omega
    rcases h with rfl | rfl <;> rfl)
  have hF0 := Fr.alloc1 w (.cells #[.string a, .string b] 35)
  refine (alive_calls _).mono ?_
  rintro e w1 ⟨rfl, hF1⟩
  have hb1 := hF1.has hbx (fun h => h)
  have c0 := hb1.cell 0 (by omega)
  have c1 := hb1.cell 1 (by omega)
  rw [if_pos rfl] at c0
  rw [if_neg (by omega)] at c1
  have hF := hF0.then0 hF1
  clear hb1 hF1 hbx hF0
  go_wp2
  refine QTail.quiet (fun w' => ∃ n, w' = w1.drewN n) (by kernel_rfl) (by kernel_rfl) ⟨1, rfl⟩ ?_
  repeat (first | go_big_quiet_step (fail) | quiet_step (fail))
  refine wpQuiet_nil ?_
  rintro _ ⟨x, rfl⟩
  replace hF := hF.drewN x
  clear c0 c1
  generalize w1.drewN x = w2 at *
  go_wp2_with fail
  refine (roomy_calls A n cap f _ hn (hA.fr hF) hnil).mono ?_
  rintro e w3 ⟨g, cap2, M, f', rfl, hg, hc2, hc3, hM, hH, hf, hfn, hF3⟩
  have hgw : w.heap.size ≤ g := by have := hF.size; omega
  replace hF := hF.then0 hF3
  clear hF3 hg
  obtain ⟨Z, hZ, hZe⟩ : ∃ Z : Nat, Z < 18446744073709551616 ∧ IntKind.u64.wrap (IntKind.u64.wrap ((a.size : Int) * 72057594037927937) + b.size) = (Z : Int) := by
    have hw : ∀ x : Int, IntKind.u64.wrap x = x % 18446744073709551616 := fun _ => rfl
    rw [hw]
    generalize IntKind.u64.wrap ((a.size : Int) * 72057594037927937) + b.size = y
    exact ⟨(y % 18446744073709551616).toNat, by omega, by omega⟩
  rw [hZe]
  clear hZe
  have HFN := Lib.hid hfn
  have hs1 : ∀ i, i < n → (f i).size ≤ 1152921504606846976 := fun i hi => Nat.le_trans (hs i hi) (by decide)
  have hs2 : ∀ i, i < n → (f i).size ≤ 18014398509481984 := fun i hi => Nat.le_trans (hs i hi) (by decide)
  clear hfn
  go_wp2_with (first
    | (go_at_call 21; refine (check_calls k _).mono ?_; rintro e w4 ⟨rfl, hx⟩; replace hF := hF.then0 hx; replace hH := hx.has hH (fun h => h); clear hx)
    | (go_at_call 22; refine (rcheck_calls k _).mono ?_; rintro e w5 ⟨rfl, hx⟩; replace hF := hF.then0 hx; replace hH := hx.has hH (fun h => h); clear hx)
    | (go_at_call 23; refine (leaf_text a _ (by omega)).mono ?_; rintro e w6 ⟨rfl, hx⟩; replace hF := hF.then0 hx; replace hH := hx.has hH (fun h => h); clear hx)
    | (go_at_call 24; refine (rleaf_text a _ (by omega)).mono ?_; rintro e w7 ⟨rfl, hx⟩; replace hF := hF.then0 hx; replace hH := hx.has hH (fun h => h); clear hx)
    | (go_at_call 25; refine (node_text a b _ (by omega) (by omega)).mono ?_; rintro e w8 ⟨rfl, hx⟩; replace hF := hF.then0 hx; replace hH := hx.has hH (fun h => h); clear hx)
    | (go_at_call 26; refine (rnode_text a b _ (by omega) (by omega)).mono ?_; rintro e w9 ⟨rfl, hx⟩; replace hF := hF.then0 hx; replace hH := hx.has hH (fun h => h); clear hx)
    | (go_at_call 27; refine (bag_text a b _ (by omega) (by omega)).mono ?_; rintro e w10 ⟨rfl, hx⟩; replace hF := hF.then0 hx; replace hH := hx.has hH (fun h => h); clear hx)
    | (go_at_call 28; refine (rbag_text a b _ (by omega) (by omega)).mono ?_; rintro e w11 ⟨rfl, hx⟩; replace hF := hF.then0 hx; replace hH := hx.has hH (fun h => h); clear hx)
    | (go_at_call 29; refine (root_text Z a _ hZ (by omega)).mono ?_; rintro e w12 ⟨rfl, hx⟩; replace hF := hF.then0 hx; replace hH := hx.has hH (fun h => h); clear hx)
    | (go_at_call 30; refine (rroot_text Z a _ hZ (by omega)).mono ?_; rintro e w13 ⟨rfl, hx⟩; replace hF := hF.then0 hx; replace hH := hx.has hH (fun h => h); clear hx)
    | (go_at_call 19; refine (dig_calls k a _ (by omega)).mono ?_; rintro e w14 ⟨rfl, hx⟩; replace hF := hF.then0 hx; replace hH := hx.has hH (fun h => h); clear hx)
    | (go_at_call 31; refine (rdig_calls k a _ (by omega) (hG.fr0 hF)).mono ?_; rintro e w15 ⟨rfl, hx⟩; replace hF := hF.then0 hx; replace hH := hx.has hH (fun h => h); clear hx)
    | (go_at_call 32; refine (leaf_dig k a _ (by omega)).mono ?_; rintro e w16 ⟨rfl, hx⟩; replace hF := hF.then0 hx; replace hH := hx.has hH (fun h => h); clear hx)
    | (go_at_call 33; refine (rleaf_dig k a _ (by omega) (hG.fr0 hF)).mono ?_; rintro e w17 ⟨rfl, hx⟩; replace hF := hF.then0 hx; replace hH := hx.has hH (fun h => h); clear hx)
    | (go_at_call 34; refine (node_dig k a b _ (by omega) (by omega)).mono ?_; rintro e w18 ⟨rfl, hx⟩; replace hF := hF.then0 hx; replace hH := hx.has hH (fun h => h); clear hx)
    | (go_at_call 35; refine (rnode_dig k a b _ (by omega) (by omega) (hG.fr0 hF)).mono ?_; rintro e w19 ⟨rfl, hx⟩; replace hF := hF.then0 hx; replace hH := hx.has hH (fun h => h); clear hx)
    | (go_at_call 36; refine (bagged_calls k _ n _ f _ (by omega) hs1 ((hH.sl 0 n (by omega)).congr fun i hi => by rw [Nat.zero_add, hf i hi])).mono ?_; rintro e w20 ⟨rfl, hx⟩; replace hF := hF.then0 hx; replace hH := hx.has hH (fun h => h); clear hx)
    | (go_at_call 37; refine (rbagged_calls k A n cap f _ (by omega) hs2 (hA.fr hF) (hG.fr0 hF)).mono ?_; rintro e w21 ⟨rfl, hx⟩; replace hF := hF.then0 hx; replace hH := hx.has hH (fun h => h); clear hx)
    | (go_at_call 38; refine (root_dig k Z _ n _ f _ hZ (by omega) hs1 ((hH.sl 0 n (by omega)).congr fun i hi => by rw [Nat.zero_add, hf i hi])).mono ?_; rintro e w22 ⟨rfl, hx⟩; replace hF := hF.then0 hx; replace hH := hx.has hH (fun h => h); clear hx)
    | (go_at_call 39; refine (rroot_dig k Z A n cap f _ hZ (by omega) hs2 (hA.fr hF) (hG.fr0 hF)).mono ?_; rintro e w23 ⟨rfl, hx⟩; replace hF := hF.then0 hx; replace hH := hx.has hH (fun h => h); clear hx)
    | (go_at_call 40; refine (whole_calls g n cap2 M f' A cap f _ hn hH hM hc2 hc3 hf HFN.out (hA.fr hF)).mono ?_; rintro e w24 ⟨rfl, hx⟩; replace hF := hF.then0 hx; replace hH := hx.has hH (fun h => h); clear hx))
  all_goals (go_ret; exact ⟨rfl, hF⟩)

end Go.Proofs.YtldiecblcnoleaaDoor.Law07
