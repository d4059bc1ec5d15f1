/- What the form's own reach gives of strings and lists of strings. No condition. -/
import Derived.Test.YtldiecblcnoleaaDoorLaws
import Derived.SizedLaws
namespace Go.Proofs.YtldiecblcnoleaaDoor.Laws
open Go.RowKit Go.ChangeShapes Go.WideShapes Go.ChangeAt Go.Proofs.YtldiecblcnoleaaDoor.Mem Go.Proofs.YtldiecblcnoleaaDoor.Sha
open Go.ChangeMaps (open_string)
set_option linter.unusedVariables false

def strJ (ss : List ByteArray) (i : Nat) : ByteArray := ss.getD i ByteArray.empty

theorem bytesStr : Tryd.prog.bytesOf 9 = 16 := by kernel_rfl

theorem sized_mem {H : Type} {P : Program} {ts : List TypeId} {ds : List (DataW H)} (h : (DataW.weightsEach P ts ds).all (· ≤ reachBytes) = true) {j : Nat} {t : TypeId} {d : DataW H} (ht : ts[j]? = some t) (hd : ds[j]? = some d) {n : Nat} (hn : n ∈ d.weights P t) : n ≤ reachBytes := by
  have := List.all_eq_true.1 h _ (DataW.weights_mem_each ht hd n hn)
  simpa using this

theorem strs_weight {H : Type} {P : Program} {e : TypeId} : ∀ (l : List ByteArray) (s : ByteArray), s ∈ l → s.data.toList.length ∈ DataW.weightsAll P e (strs (H := H) l)
  | [], _, h => by cases h
  | x :: l, s, h => by
    show _ ∈ DataW.weights P e (.lit (.string x.data.toList)) ++ DataW.weightsAll P e (strs (H := H) l)
    rw [List.mem_append]
    rcases List.mem_cons.1 h with h | h
    · subst h
      exact Or.inl (by simp [DataW.weights])
    · exact Or.inr (strs_weight l s h)

theorem reach_is : reachBytes = 140737488351232 := by decide

set_option maxRecDepth 100000 in
/-- A list of strings among the arguments, opened. -/
theorem open_list_sized {H : Type} {enc : TypeId × Value → H} {W : World} {v : Value} {d : DataW H} {p : List MemPlace} {base : Nat} {ts : List TypeId} {ds : List (DataW H)} (hok : Value.okWide Tryd.prog W .any base 22 v)
    (h : DataW.Trod enc Tryd.prog W 0 (fun _ => true) true 22 v d p) (hZ : (DataW.weightsEach Tryd.prog ts ds).all (· ≤ reachBytes) = true) {j : Nat} (ht : ts[j]? = some 22) (hd : ds[j]? = some d) :
    ∃ (A : Option Addr) (n cap : Nat) (f : Nat → ByteArray), v = .slice A n cap ∧ n * 16 ≤ 140737488351232 ∧ (∀ i, i < n → (f i).size ≤ 140737488351232) ∧ SlAt W A n (fun i => .string (f i)) ∧ (A = none → n = 0 ∧ cap = 0) := by
  obtain ⟨a0, len, cap, rfl⟩ := okWide_slice Tryd.underlying22 hok
  obtain ⟨fuel, hf⟩ := h
  rcases open_strings Tryd.underlying22 Tryd.underlying9 cellsStr hf with ⟨hcs, hx⟩ | ⟨a, len', cap', ss, hcs, _, hl, hm, hz, hx, hcell, hsz⟩
  · change [Value.slice a0 len cap] = _ at hcs
    simp only [List.cons.injEq, Value.slice.injEq, and_true] at hcs
    obtain ⟨rfl, rfl, rfl⟩ := hcs
    exact ⟨none, 0, 0, fun _ => ByteArray.empty, rfl, Nat.zero_le _, fun _ h => (by omega), .inl rfl, fun _ => ⟨rfl, rfl⟩⟩
  · change [Value.slice a0 len cap] = _ at hcs
    simp only [List.cons.injEq, Value.slice.injEq, and_true] at hcs
    obtain ⟨rfl, rfl, rfl⟩ := hcs
    rw [if_pos rfl] at hz
    have hdd : d = .slice (strs (ss.take len)) (strs (ss.drop len)) := congrArg Prod.fst hx
    rw [hdd] at hd
    have hw : ((strs (H := H) (ss.take len)).length + (strs (H := H) (ss.drop len)).length) * 16 ≤ reachBytes := by
      have := sized_slice hZ ht hd Tryd.underlying22
      rwa [bytesStr] at this
    have hl2 : (strs (H := H) (ss.take len)).length = len := by simp [strs]; omega
    rw [hl2, reach_is] at hw
    refine ⟨some a, len, cap, strJ ss, rfl, by omega, fun i hi => ?_, ?_, fun h => by cases h⟩
    · have hmem : strJ ss i ∈ ss.take len := by
        have hi2 : i < (ss.take len).length := by simp; omega
        have : strJ ss i = (ss.take len)[i] := by
          simp [strJ, List.getD, List.getElem?_eq_getElem (show i < ss.length by omega)]
        rw [this]
        exact List.getElem_mem _
      have := sized_mem hZ ht hd (n := (strJ ss i).data.toList.length) (by
        simp only [DataW.weights, Tryd.underlying22]
        exact List.mem_cons_of_mem _ (List.mem_append_left _ (strs_weight _ _ hmem)))
      rw [Lib.size_eq]
      rwa [reach_is] at this
    · rcases Nat.eq_zero_or_pos len with h0 | h0
      · exact .inl h0
      · obtain ⟨b, off, spot⟩ := a
        have hspot : spot = none := by simpa [Addr.add] using World.cell?_spot (hcell 0 (by omega))
        subst hspot
        refine .inr ⟨b, off, rfl, cell_lt (hcell 0 (by omega)), fun i hi => ?_⟩
        rw [← add_plain]
        exact hcell i (by omega)

set_option maxRecDepth 100000 in
/-- A list of strings among the arguments, opened. -/
theorem open_list_cap {H : Type} {enc : TypeId × Value → H} {W : World} {v : Value} {d : DataW H} {p : List MemPlace} {base : Nat} {ts : List TypeId} {ds : List (DataW H)} (hok : Value.okWide Tryd.prog W .any base 22 v)
    (h : DataW.Trod enc Tryd.prog W 0 (fun _ => true) true 22 v d p) (hZ : (DataW.weightsEach Tryd.prog ts ds).all (· ≤ reachBytes) = true) {j : Nat} (ht : ts[j]? = some 22) (hd : ds[j]? = some d) :
    ∃ (A : Option Addr) (n cap : Nat) (f : Nat → ByteArray), v = .slice A n cap ∧ n * 16 ≤ 140737488351232 ∧ (∀ i, i < n → (f i).size ≤ 140737488351232) ∧ SlAt W A n (fun i => .string (f i)) ∧ (A = none → n = 0 ∧ cap = 0) ∧ n ≤ cap ∧ cap ≤ 9223372036854775807 := by
  obtain ⟨a0, len, cap, rfl⟩ := okWide_slice Tryd.underlying22 hok
  obtain ⟨fuel, hf⟩ := h
  rcases open_strings Tryd.underlying22 Tryd.underlying9 cellsStr hf with ⟨hcs, hx⟩ | ⟨a, len', cap', ss, hcs, _, hl, hm, hz, hx, hcell, hsz⟩
  · change [Value.slice a0 len cap] = _ at hcs
    simp only [List.cons.injEq, Value.slice.injEq, and_true] at hcs
    obtain ⟨rfl, rfl, rfl⟩ := hcs
    exact ⟨none, 0, 0, fun _ => ByteArray.empty, rfl, Nat.zero_le _, fun _ h => (by omega), .inl rfl, fun _ => ⟨rfl, rfl⟩, Nat.le_refl _, by decide⟩
  · change [Value.slice a0 len cap] = _ at hcs
    simp only [List.cons.injEq, Value.slice.injEq, and_true] at hcs
    obtain ⟨rfl, rfl, rfl⟩ := hcs
    rw [if_pos rfl] at hz
    have hdd : d = .slice (strs (ss.take len)) (strs (ss.drop len)) := congrArg Prod.fst hx
    rw [hdd] at hd
    have hw : ((strs (H := H) (ss.take len)).length + (strs (H := H) (ss.drop len)).length) * 16 ≤ reachBytes := by
      have := sized_slice hZ ht hd Tryd.underlying22
      rwa [bytesStr] at this
    have hl2 : (strs (H := H) (ss.take len)).length = len := by simp [strs]; omega
    rw [hl2, reach_is] at hw
    refine ⟨some a, len, cap, strJ ss, rfl, by omega, fun i hi => ?_, ?_, (fun h => by cases h), hl, hm⟩
    · have hmem : strJ ss i ∈ ss.take len := by
        have hi2 : i < (ss.take len).length := by simp; omega
        have : strJ ss i = (ss.take len)[i] := by
          simp [strJ, List.getD, List.getElem?_eq_getElem (show i < ss.length by omega)]
        rw [this]
        exact List.getElem_mem _
      have := sized_mem hZ ht hd (n := (strJ ss i).data.toList.length) (by
        simp only [DataW.weights, Tryd.underlying22]
        exact List.mem_cons_of_mem _ (List.mem_append_left _ (strs_weight _ _ hmem)))
      rw [Lib.size_eq]
      rwa [reach_is] at this
    · rcases Nat.eq_zero_or_pos len with h0 | h0
      · exact .inl h0
      · obtain ⟨b, off, spot⟩ := a
        have hspot : spot = none := by simpa [Addr.add] using World.cell?_spot (hcell 0 (by omega))
        subst hspot
        refine .inr ⟨b, off, rfl, cell_lt (hcell 0 (by omega)), fun i hi => ?_⟩
        rw [← add_plain]
        exact hcell i (by omega)

theorem int_of_wf {n : Int} (h : (Lit.int .i64 n).wf = true) : -9223372036854775808 ≤ n ∧ n < 9223372036854775808 := by
  simp only [Lit.wf, Bool.and_eq_true, decide_eq_true_eq] at h
  obtain ⟨h1, h2⟩ := h
  have h1' : -9223372036854775808 ≤ n := h1
  have h2' : n ≤ 9223372036854775807 := h2
  omega

end Go.Proofs.YtldiecblcnoleaaDoor.Laws
