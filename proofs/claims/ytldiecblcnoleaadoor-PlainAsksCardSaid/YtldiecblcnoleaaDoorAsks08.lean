/- massiflaw08.PlainAsks: it returns true. Conditions: the list can be read; sizes; the reference's tables. -/
import Derived.Test.YtldiecblcnoleaaDoorLaw08
namespace Go.Proofs.YtldiecblcnoleaaDoor.Plain
open Go.RowKit Go.Proofs.YtldiecblcnoleaaDoor.Mem Go.Proofs.YtldiecblcnoleaaDoor.Sha Go.Proofs.YtldiecblcnoleaaDoor.Hash
set_option linter.unusedVariables false
set_option linter.unusedSimpArgs false

set_option maxRecDepth 100000 in
set_option maxHeartbeats 2000000 in
theorem plainAsks_calls (k : Int) (A : Option Addr) (n0 cap : Nat) (f : Nat → ByteArray) (H : Int) (K : Nat) (w : World) (hc0 : n0 ≤ cap) (hc2 : cap ≤ 9223372036854775807) (hs0 : ∀ i, i < n0 → (f i).size ≤ 9007199254740992)
    (hA0 : SlAt w A n0 (fun i => .string (f i))) (hnil0 : A = none → n0 = 0 ∧ cap = 0) (hK : K < 18446744073709551616) (hG : GL w) :
    Calls Tryd.prog 8 #[.int .i64 k, .slice A n0 cap, .agg #[.int .i64 H, .int .u64 (K : Int)]] w fun e w' => e = .returned (.bool true) ∧ Fr Nil w w' := by
  go_enter Tryd.func8, Tryd.ntmps8
  go_wp2_with fail
  have hb : Has (w.alloc (.cells #[.int .i64 H, .int .u64 (K : Int)] 52)) w.heap.size 2 52 (fun i => if i = 0 then .int .i64 H else .int .u64 (K : Int)) := Has.new _ _ _ _ 2 rfl (fun i hi => by
    have e : i = 0 ∨ i = 1 := by omega
    rcases e with rfl | rfl <;> rfl)
  have hF := Fr.alloc1 w (.cells #[.int .i64 H, .int .u64 (K : Int)] 52)
  refine (alive_calls _).mono ?_
  rintro e w1 ⟨rfl, hx⟩
  replace hb := hx.has hb (fun h => h)
  replace hF := hF.then0 hx
  clear hx
  go_wp2_with fail
  refine (few_calls A n0 cap _ hc0 hc2).mono ?_
  rintro e w2 ⟨rfl, hx⟩
  replace hb := hx.has hb (fun h => h)
  replace hF := hF.then0 hx
  have hA := SlAt.take hA0 (min n0 300) (Nat.min_le_left _ _)
  have hn3 := Nat.min_le_right n0 300
  have hn0 := Nat.min_le_left n0 300
  have hs : ∀ i, i < min n0 300 → (f i).size ≤ 9007199254740992 := fun i hi => hs0 i (by omega)
  have hnil : A = none → min n0 300 = 0 ∧ cap = 0 := fun h => ⟨by have := (hnil0 h).1; omega, (hnil0 h).2⟩
  have hcn : min n0 300 ≤ cap := by omega
  generalize min n0 300 = n at *
  clear hx hA0 hs0 hnil0
  go_wp2_with fail
  refine (lent_calls A n cap f _ (by omega) (hA.fr hF) hnil).mono ?_
  rintro e w3 ⟨g, cap2, M, f', rfl, hg, hc3, hc4, hM, hH, hf, hfn, hx⟩
  replace hb := hx.has hb (fun h => h)
  replace hF := hF.then0 hx
  have hsb : ∀ i, i < n → (f i).size ≤ 1152921504606846976 := fun i hi => Nat.le_trans (hs i hi) (by decide)
  have hSl : SlAt w3 (some ⟨g, 0, none⟩) n (fun i => .string (f i)) := (hH.sl 0 n (by omega)).congr fun i hi => by rw [Nat.zero_add]; exact hf i hi
  clear hx hg
  have b0 : w3.cell? ⟨w.heap.size, 0, none⟩ = some (.int .i64 H) := hb.cell 0 (by omega)
  have b1 : w3.cell? ⟨w.heap.size, 1, none⟩ = some (.int .u64 (K : Int)) := hb.cell 1 (by omega)
  have HFN := Lib.hid hfn
  have HFF := Lib.hid hf
  clear hfn hf
  go_wp2_with fail
  refine (treeOf_calls k _ n cap2 f H K _ (by omega) (by omega) hc4 hsb hSl hK).mono ?_
  rintro e w4 ⟨rfl, hx⟩
  replace hF := hF.then0 hx
  replace hH := hx.has hH (fun h => h)
  replace hb := hx.has hb (fun h => h)
  replace hSl := hSl.fr hx
  clear b0 b1 hx
  have b0 : w4.cell? ⟨w.heap.size, 0, none⟩ = some (.int .i64 H) := hb.cell 0 (by omega)
  have b1 : w4.cell? ⟨w.heap.size, 1, none⟩ = some (.int .u64 (K : Int)) := hb.cell 1 (by omega)
  go_wp2_with fail
  refine (rtreeOf_calls k A n cap f H K _ (by omega) hcn hc2 hs (hA.fr hF) hK (hG.fr0 hF)).mono ?_
  rintro e w5 ⟨rfl, hx⟩
  replace hF := hF.then0 hx
  replace hH := hx.has hH (fun h => h)
  replace hb := hx.has hb (fun h => h)
  replace hSl := hSl.fr hx
  clear b0 b1 hx
  generalize treeOf k f n H K = D at *
  generalize isTree n H K = I at *
  have b1 : w5.cell? ⟨w.heap.size, 1, none⟩ = some (.int .u64 (K : Int)) := hb.cell 1 (by omega)
  go_wp2_with fail
  refine (root_calls k _ n cap2 f K _ (by omega) (by omega) hc4 hsb hSl hK).mono ?_
  rintro e w6 ⟨rfl, hx⟩
  unfold rootV
  replace hF := hF.then0 hx
  replace hH := hx.has hH (fun h => h)
  replace hb := hx.has hb (fun h => h)
  replace hSl := hSl.fr hx
  clear b1 hx
  have b1 : w6.cell? ⟨w.heap.size, 1, none⟩ = some (.int .u64 (K : Int)) := hb.cell 1 (by omega)
  have hlt := hb.lt
  go_wp2_with fail
  obtain ⟨RB, hRB⟩ : ∃ RB, RB = w6.heap.size := ⟨_, rfl⟩
  have hr := Has.new w6 #[.int .u64 (rootN k n K : Int), .string (rootD k f n K)] 56 (rootF (rootN k n K) (rootD k f n K)) 2 rfl (fun i hi => by
    have e : i = 0 ∨ i = 1 := by omega
    rcases e with rfl | rfl <;> rfl)
  have hx := Fr.alloc1 w6 (.cells #[.int .u64 (rootN k n K : Int), .string (rootD k f n K)] 56)
  replace hF := hF.then0 hx
  replace hH := hx.has hH (fun h => h)
  replace hb := hx.has hb (fun h => h)
  replace hSl := hSl.fr hx
  generalize w6.alloc (.cells #[.int .u64 (rootN k n K : Int), .string (rootD k f n K)] 56) = w7 at *
  rw [← hRB] at hr ⊢
  clear hx b1 hlt hRB
  refine (rroot_calls k A n cap f K _ (by omega) hcn hc2 hs (hA.fr hF) hK (hG.fr0 hF)).mono ?_
  rintro e w8 ⟨rfl, hx⟩
  unfold rootV
  replace hF := hF.then0 hx
  replace hH := hx.has hH (fun h => h)
  replace hr := hx.has hr (fun h => h)
  replace hSl := hSl.fr hx
  clear hx hb
  generalize rootN k n K = RN at *
  generalize rootD k f n K = RD at *
  generalize rootE k n K = RE at *
  have r0 : w8.cell? ⟨RB, 0, none⟩ = some (.int .u64 (RN : Int)) := hr.cell 0 (by omega)
  have r1 : w8.cell? ⟨RB, 1, none⟩ = some (.string RD) := hr.cell 1 (by omega)
  have hlt := hr.lt
  go_wp2_with fail
  have hx := Fr.alloc1 w8 (.cells #[.int .u64 (RN : Int), .string RD] 56)
  replace hF := hF.then0 hx
  replace hH := hx.has hH (fun h => h)
  replace hSl := hSl.fr hx
  generalize w8.alloc (.cells #[.int .u64 (RN : Int), .string RD] 56) = w9 at *
  clear hx r0 r1 hlt hr
  have hpk := fun w h1 h2 => peaks_calls k (some ⟨g, 0, none⟩) n cap2 f w h1 h2 hc4 hsb
  have hrpk := fun w h1 h2 => rpeaks_calls k A n cap f w h1 hcn hc2 hs h2
  have hfew := peaksL_few k f n 0 n
  generalize peaksL k f n 0 n = L at *
  refine (hpk _ (by omega) (by omega) hSl).mono ?_
  rintro e w10 ⟨V, rfl, hO, hx⟩
  replace hF := hF.then0 hx
  replace hH := hx.has hH (fun h => h)
  obtain ⟨VA, vc, rfl, _, _, hV, _⟩ := Own.sl hO
  clear hx hO hpk
  go_wp2_with fail
  refine (hrpk _ (by omega) (hA.fr hF) (hG.fr0 hF)).mono ?_
  rintro e w11 ⟨U, rfl, hO, hx⟩
  replace hF := hF.then0 hx
  replace hH := hx.has hH (fun h => h)
  replace hV := hV.fr hx
  obtain ⟨UA, uc, rfl, _, _, hU, _⟩ := Own.sl hO
  clear hx hO hrpk
  go_wp2_with fail
  refine (same_calls VA UA L.length vc uc (listF L) _ (by omega) hV hU).mono ?_
  rintro e w12 ⟨rfl, hx⟩
  replace hF := hF.then0 hx
  replace hH := hx.has hH (fun h => h)
  clear hx hV hU
  go_wp2_with fail
  refine (whole_calls g n cap2 M f' A cap f _ (by omega) hH hM hc3 hc4 HFF.out HFN.out (hA.fr hF)).mono ?_
  rintro e w13 ⟨rfl, hx⟩
  replace hF := hF.then0 hx
  go_wp2
  go_ret
  exact ⟨rfl, hF⟩

end Go.Proofs.YtldiecblcnoleaaDoor.Plain
