/- plain.Root. Conditions: the list can be read; sizes. -/
import Derived.Test.YtldiecblcnoleaaDoorTree08
namespace Go.Proofs.YtldiecblcnoleaaDoor.Plain
open Go.RowKit Go.Proofs.YtldiecblcnoleaaDoor.Mem Go.Proofs.YtldiecblcnoleaaDoor.Sha Go.Proofs.YtldiecblcnoleaaDoor.Hash
set_option linter.unusedVariables false
set_option linter.unusedSimpArgs false

theorem results_ct {P : Program} {fn : Func} {p u : Tmp} {ty : TypeId} (h : fn.results = #[.cell p ty, .tmp u]) (tmps : Array Value) {w : World} {b n T : Nat} {f : Nat → Value} {d : TypeDesc}
    (hp : tmps.getD p undef = .pointer (some ⟨b, 0, none⟩)) (hb : Has w b n T f) (hu : P.underlying ty = some d) (hd : (match d with | .struct _ | .array _ _ => true | _ => false) = true)
    (hi : (P.info? ty).map (·.size) = some n) : (results fn tmps).run P w = .ok (.tuple #[aggF n f, tmps.getD u undef]) w := by
  have hp' : tmps[p]?.getD undef = .pointer (some ⟨b, 0, none⟩) := by simpa using hp
  have := run_loadVar_row w b T ty (cellsF n f).toArray (0, 0) d hb.heap hu hd (by rw [hi]; simp [cellsF])
  simp [results, h, hp', asAddr, this, aggF]

/-- api.Root by value. -/
def rootF (z : Nat) (d : ByteArray) (i : Nat) : Value := if i = 0 then .int .u64 (z : Int) else .string d
theorem rootF_one (z : Nat) (d : ByteArray) (i : Nat) : (rootF z d i).oneCell' = true := by unfold rootF; split <;> rfl
theorem alloc_root (w : World) : (Instr.alloc 56 true (.tuple #[])).run Tryd.prog w = .ok (.pointer (some ⟨w.heap.size, 0, none⟩)) (w.alloc (.cells (cellsF 2 (rootF 0 ⟨#[]⟩)).toArray 56)) := by kernel_rfl
def rootV (z : Nat) (d : ByteArray) : Value := .agg #[.int .u64 (z : Int), .string d]
theorem rootV_is (z : Nat) (d : ByteArray) : aggF 2 (rootF z d) = rootV z d := rfl

def listF (L : List ByteArray) (i : Nat) : ByteArray := L.getD i ⟨#[]⟩

/-- The root of the first z of n items: why it is refused, how many, its digest. -/
def rootE (k : Int) (n z : Nat) : Int := if 1 ≤ k ∧ k ≤ 32 then (if z ≤ n then 0 else 30) else 70
def rootN (k : Int) (n z : Nat) : Nat := if rootE k n z = 0 then z else 0
def rootOf (k : Int) (f : Nat → ByteArray) (z : Nat) : ByteArray := dig k (rootT z (bagged k (listF (peaksL k f z 0 z)) (peaksL k f z 0 z).length))
def rootD (k : Int) (f : Nat → ByteArray) (n z : Nat) : ByteArray := if rootE k n z = 0 then rootOf k f z else ⟨#[]⟩

theorem peaksL_small (k : Int) (f : Nat → ByteArray) : ∀ g a n, ∀ x ∈ peaksL k f g a n, x.size ≤ 32
  | 0, _, _, x, h => by cases h
  | g + 1, a, n, x, h => by
    simp only [peaksL] at h
    split at h
    · cases h
    · rcases List.mem_cons.1 h with rfl | h
      · exact treeD_small _ _ _ _
      · exact peaksL_small k f g _ _ x h

theorem peaksL_few (k : Int) (f : Nat → ByteArray) : ∀ g a n, (peaksL k f g a n).length ≤ g
  | 0, _, _ => Nat.le_refl _
  | g + 1, a, n => by
    simp only [peaksL]
    split
    · exact Nat.zero_le _
    · have := peaksL_few k f g (a + 2 ^ n.log2) (n - 2 ^ n.log2)
      simp
      omega

theorem listF_small {L : List ByteArray} {m : Nat} (h : ∀ x ∈ L, x.size ≤ m) (i : Nat) : (listF L i).size ≤ m := by
  unfold listF
  rw [List.getD_eq_getElem?_getD]
  cases hh : L[i]? with
  | none => exact Nat.zero_le _
  | some x => exact h x (List.mem_of_getElem? hh)

theorem Own.sl {w : World} {B n : Nat} {V : Value} {e : Nat} {f : Nat → Value} (h : Own w B V e 1 n f) : ∃ A cap, V = .slice A n cap ∧ n ≤ cap ∧ cap ≤ 9223372036854775807 ∧ SlAt w A n f ∧ (A = none → n = 0 ∧ cap = 0) := by
  rcases h.open with ⟨rfl, rfl⟩ | ⟨g, cap, N, f', rfl, _, hc, hm, hN, hH, hf⟩
  · exact ⟨none, 0, rfl, Nat.le_refl _, by omega, .inl rfl, fun _ => ⟨rfl, rfl⟩⟩
  · exact ⟨_, cap, rfl, hc, hm, (hH.sl 0 n (by omega)).congr fun i hi => by rw [Nat.zero_add]; exact hf i (by omega), fun h => by cases h⟩

set_option maxRecDepth 100000 in
set_option maxHeartbeats 1000000 in
theorem root_calls (k : Int) (A : Option Addr) (n cap : Nat) (f : Nat → ByteArray) (z : Nat) (w : World) (hn : n ≤ 8796093022207) (hc : n ≤ cap) (hc2 : cap ≤ 9223372036854775807) (hs : ∀ i, i < n → (f i).size ≤ 1152921504606846976) (hA : SlAt w A n (fun i => .string (f i))) (hz : z < 18446744073709551616) :
    Calls Tryd.prog 49 #[.int .i64 k, .slice A n cap, .int .u64 (z : Int)] w fun e w' => e = .returned (.tuple #[rootV (rootN k n z) (rootD k f n z), .int .i64 (rootE k n z)]) ∧ Fr Nil w w' := by
  by_cases hk : 1 ≤ k ∧ k ≤ 32
  · by_cases hzn : z ≤ n
    · have hE : rootE k n z = 0 := by unfold rootE; rw [if_pos hk, if_pos hzn]
      have hN : rootN k n z = z := by unfold rootN; rw [if_pos hE]
      have hD : rootD k f n z = rootOf k f z := by unfold rootD; rw [if_pos hE]
      rw [hE, hN, hD]
      clear hE hN hD
      unfold rootOf
      have hsm := peaksL_small k f z 0 z
      have hfew := peaksL_few k f z 0 z
      have hpk : ∀ w', Fr Nil w w' → _ := fun w' (hF : Fr Nil w w') => peaks_calls k A z cap f w' (by omega) (by omega) hc2 (fun i hi => hs i (by omega)) (SlAt.take (hA.fr hF) z hzn)
      obtain ⟨L, hL⟩ : ∃ L, peaksL k f z 0 z = L := ⟨_, rfl⟩
      rw [hL] at hsm hfew hpk ⊢
      have HP := Lib.hid hpk
      have HS := Lib.hid hsm
      clear hL hpk hsm hA hs
      go_enter Tryd.func49, Tryd.ntmps49
      go_wp2_with (refine wpList_alloc rfl 56 rfl 2 56 _ (alloc_root _) ?_; intro w2 hR hF hz2)
      refine (check_calls k _).mono ?_
      rintro e w3 ⟨rfl, hx⟩
      rw [if_pos hk]
      replace hR := hx.has hR (fun h => h)
      replace hF := hF.then0 hx
      clear hx hk
      go_wp2_with fail
      refine (HP.out _ hF).mono ?_
      rintro e w4 ⟨V, rfl, hO, hx⟩
      replace hR := hx.has hR (fun h => h)
      replace hF := hF.then0 hx
      obtain ⟨B, cap2, rfl, _, hcap2, hSl, _⟩ := Own.sl hO
      clear hx hO HP
      go_wp2_with fail
      refine (root_dig k z B L.length cap2 (listF L) _ hz (by omega) (fun i hi => Nat.le_trans (listF_small HS.out i) (by decide)) hSl).mono ?_
      rintro e w5 ⟨rfl, hx⟩
      replace hR := hx.has hR (fun h => h)
      replace hF := hF.then0 hx
      obtain ⟨D, hD⟩ : ∃ D, dig k (rootT z (bagged k (listF L) L.length)) = D := ⟨_, rfl⟩
      rw [hD]
      have HD := Lib.hid hD
      clear hD
      clear hx hSl HS
      go_wp2_with (refine wpList_store_has hR rfl 56 _ _ rfl 0 2 (rootF z D) rfl rfl (by omega) rfl (fun _ _ => rootF_one _ _ _) ?_; intro w6 hR6 hF6)
      refine bodyPost_ret (results_ct rfl _ rfl (hR6.congr (g := rootF z D) fun i hi => by rw [if_pos (by omega)]; rfl) Tryd.underlying56 rfl rfl) rfl ?_
      rw [HD.out]
      exact ⟨rfl, hF.then1 hF6 (.inl (Nat.le_refl _))⟩
    · have hE : rootE k n z = 30 := by unfold rootE; rw [if_pos hk, if_neg hzn]
      have hN : rootN k n z = 0 := by unfold rootN; rw [hE]; rfl
      have hD : rootD k f n z = ⟨#[]⟩ := by unfold rootD; rw [hE]; rfl
      rw [hE, hN, hD]
      clear hE hN hD hA hs
      go_enter Tryd.func49, Tryd.ntmps49
      go_wp2_with (refine wpList_alloc rfl 56 rfl 2 56 _ (alloc_root _) ?_; intro w2 hR hF hz2)
      refine (check_calls k _).mono ?_
      rintro e w3 ⟨rfl, hx⟩
      rw [if_pos hk]
      replace hR := hx.has hR (fun h => h)
      replace hF := hF.then0 hx
      clear hx hk
      go_wp2_with (refine wpList_store_has hR rfl 56 _ _ rfl 0 2 (rootF 0 ⟨#[]⟩) rfl rfl (by omega) rfl (fun _ _ => rootF_one _ _ _) ?_; intro w6 hR6 hF6)
      refine bodyPost_ret (results_ct rfl _ rfl (hR6.congr (g := rootF 0 ⟨#[]⟩) fun i hi => by rw [if_pos (by omega)]; rfl) Tryd.underlying56 rfl rfl) rfl ?_
      exact ⟨rfl, hF.then1 hF6 (.inl (Nat.le_refl _))⟩
  · have hE : rootE k n z = 70 := by unfold rootE; rw [if_neg hk]
    have hN : rootN k n z = 0 := by unfold rootN; rw [hE]; rfl
    have hD : rootD k f n z = ⟨#[]⟩ := by unfold rootD; rw [hE]; rfl
    rw [hE, hN, hD]
    clear hE hN hD hA hs
    go_enter Tryd.func49, Tryd.ntmps49
    go_wp2_with (refine wpList_alloc rfl 56 rfl 2 56 _ (alloc_root _) ?_; intro w2 hR hF hz2)
    refine (check_calls k _).mono ?_
    rintro e w3 ⟨rfl, hx⟩
    rw [if_neg hk]
    replace hR := hx.has hR (fun h => h)
    replace hF := hF.then0 hx
    clear hx hk
    go_wp2_with (refine wpList_store_has hR rfl 56 _ _ rfl 0 2 (rootF 0 ⟨#[]⟩) rfl rfl (by omega) rfl (fun _ _ => rootF_one _ _ _) ?_; intro w6 hR6 hF6)
    refine bodyPost_ret (results_ct rfl _ rfl (hR6.congr (g := rootF 0 ⟨#[]⟩) fun i hi => by rw [if_pos (by omega)]; rfl) Tryd.underlying56 rfl rfl) rfl ?_
    exact ⟨rfl, hF.then1 hF6 (.inl (Nat.le_refl _))⟩

end Go.Proofs.YtldiecblcnoleaaDoor.Plain
