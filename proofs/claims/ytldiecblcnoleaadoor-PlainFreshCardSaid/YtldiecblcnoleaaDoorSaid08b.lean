/- PlainFresh: for every list of lists the law returns true. No condition. -/
import Derived.Test.YtldiecblcnoleaaDoorSized
import Derived.Test.YtldiecblcnoleaaDoorFresh08b
import Derived.Test.YtldiecblcnoleaaDoorCards
import Derived.Test.YtldiecblcnoleaaDoorTie
import Derived.Deep.Slices
namespace Go.Proofs.YtldiecblcnoleaaDoor.Laws
open Go.RowKit Go.ChangeShapes Go.WideShapes Go.ChangeAt Go.Proofs.YtldiecblcnoleaaDoor.Mem Go.Proofs.YtldiecblcnoleaaDoor.Sha Go.Proofs.YtldiecblcnoleaaDoor.Plain
set_option linter.unusedVariables false

theorem cellsList : Tryd.prog.cellsOf 22 = 1 := by kernel_rfl

theorem weightsAll_mem {H : Type} {P : Program} {e : TypeId} : ∀ {l : List (DataW H)} {d : DataW H}, d ∈ l → ∀ n ∈ d.weights P e, n ∈ DataW.weightsAll P e l
  | x :: l, d, h, n, hn => by
    simp only [DataW.weightsAll, List.mem_append]
    rcases List.mem_cons.1 h with rfl | h
    · exact Or.inl hn
    · exact Or.inr (weightsAll_mem h n hn)

/-- A list of strings that is read. -/
def IsList (W : World) (v : Value) (q : Option Addr × Nat × Nat × (Nat → ByteArray)) : Prop :=
  v = .slice q.1 q.2.1 q.2.2.1 ∧ SlAt W q.1 q.2.1 (fun j => .string (q.2.2.2 j)) ∧ q.2.1 ≤ q.2.2.1 ∧ q.2.2.1 ≤ 9223372036854775807 ∧ ∀ j, j < q.2.1 → (q.2.2.2 j).size ≤ 9007199254740992

theorem slAt_of {W : World} {a : Addr} {len : Nat} {V : Nat → Value} (h : ∀ i, i < len → W.cell? (a.add i) = some (V i)) : SlAt W (some a) len V := by
  rcases Nat.eq_zero_or_pos len with h0 | h0
  · exact .inl h0
  · obtain ⟨b, off, spot⟩ := a
    have hspot : spot = none := by simpa [Addr.add] using World.cell?_spot (h 0 (by omega))
    subst hspot
    refine .inr ⟨b, off, rfl, cell_lt (h 0 (by omega)), fun i hi => ?_⟩
    rw [← add_plain]
    exact h i hi

theorem open_elem {H : Type} {enc : TypeId × Value → H} {W : World} {n : Nat} {V : Value} {D : DataW H} {p : List MemPlace}
    (h : DataW.trod enc Tryd.prog W 0 (fun _ => true) true n 22 [V] = some (D, p)) (hw : ∀ m ∈ D.weights Tryd.prog 22, m ≤ reachBytes) : ∃ q, IsList W V q := by
  rcases open_strings Tryd.underlying22 Tryd.underlying9 cellsStr h with ⟨hcs, hx⟩ | ⟨a, len, cap, ss, hcs, _, hl, hm, hz, hx, hcell, hsz⟩
  · simp only [List.cons.injEq, and_true] at hcs
    exact ⟨(none, 0, 0, fun _ => ByteArray.empty), hcs, .inl rfl, Nat.le_refl _, by decide, fun _ h => by cases h⟩
  · simp only [List.cons.injEq, and_true] at hcs
    rw [if_pos rfl] at hz
    have hdd : D = .slice (strs (ss.take len)) (strs (ss.drop len)) := congrArg Prod.fst hx
    refine ⟨(some a, len, cap, strJ ss), hcs, slAt_of fun i hi => hcell i (by have h2 : i < len := hi; omega), hl, hm, fun i hi => ?_⟩
    replace hi : i < len := hi
    have hmem : strJ ss i ∈ ss.take len := by
      have hi2 : i < (ss.take len).length := by simp; omega
      have : strJ ss i = (ss.take len)[i] := by
        simp [strJ, List.getD, List.getElem?_eq_getElem (show i < ss.length by omega)]
      rw [this]
      exact List.getElem_mem _
    have := hw (strJ ss i).data.toList.length (by
      rw [hdd]
      simp only [DataW.weights, Tryd.underlying22]
      exact List.mem_cons_of_mem _ (List.mem_append_left _ (strs_weight _ _ hmem)))
    show (strJ ss i).size ≤ _
    rw [Lib.size_eq]
    rw [reach_is] at this
    omega

set_option maxRecDepth 100000 in
/-- A list of lists of strings among the arguments, opened. -/
theorem open_lists {H : Type} {enc : TypeId × Value → H} {W : World} {v : Value} {d : DataW H} {p : List MemPlace} {base : Nat} {ts : List TypeId} {ds : List (DataW H)} (hok : Value.okWide Tryd.prog W .any base 48 v)
    (h : DataW.Trod enc Tryd.prog W 0 (fun _ => true) true 48 v d p) (hZ : (DataW.weightsEach Tryd.prog ts ds).all (· ≤ reachBytes) = true) {j : Nat} (ht : ts[j]? = some 48) (hd : ds[j]? = some d) :
    ∃ (A : Option Addr) (n cap : Nat) (LA : Nat → Option Addr) (ln lc : Nat → Nat) (lf : Nat → Nat → ByteArray), v = .slice A n cap ∧ n ≤ 9223372036854775807 ∧ Lists W A n LA ln lc lf := by
  obtain ⟨a0, len, cap, rfl⟩ := okWide_slice Tryd.underlying48 hok
  obtain ⟨fuel, hf⟩ := h
  rcases Deep.open_slice1 Tryd.underlying48 cellsList hf with ⟨hcs, hx⟩ | ⟨a, len', cap', m, k, V, D, Pl, hcs, _, hl, hm, hz, hx, hcell⟩
  · change [Value.slice a0 len cap] = _ at hcs
    simp only [List.cons.injEq, Value.slice.injEq, and_true] at hcs
    obtain ⟨rfl, rfl, rfl⟩ := hcs
    exact ⟨none, 0, 0, fun _ => none, fun _ => 0, fun _ => 0, fun _ _ => ByteArray.empty, rfl, by decide, .inl rfl, fun _ h => (by omega), fun _ h => (by omega), fun _ h => (by omega)⟩
  · change [Value.slice a0 len cap] = _ at hcs
    simp only [List.cons.injEq, Value.slice.injEq, and_true] at hcs
    obtain ⟨rfl, rfl, rfl⟩ := hcs
    rw [if_pos rfl] at hz
    have hdd : d = .slice ((List.range len).map D) ((List.range (m - len)).map fun j => D (len + j)) := congrArg Prod.fst hx
    have hE : ∀ i, ∃ q, i < len → IsList W (V i) q := fun i => by
      by_cases hi : i < len
      · obtain ⟨q, hq⟩ := open_elem (hcell i (by omega)).2 fun n hn => by
          refine sized_mem hZ ht hd ?_
          rw [hdd]
          simp only [DataW.weights, Tryd.underlying48]
          exact List.mem_cons_of_mem _ (List.mem_append_left _ (weightsAll_mem (List.mem_map.2 ⟨i, List.mem_range.2 hi, rfl⟩) n hn))
        exact ⟨q, fun _ => hq⟩
      · exact ⟨(none, 0, 0, fun _ => ByteArray.empty), fun h => absurd h hi⟩
    obtain ⟨q, hq⟩ := Classical.axiomOfChoice hE
    refine ⟨some a, len, cap, fun i => (q i).1, fun i => (q i).2.1, fun i => (q i).2.2.1, fun i => (q i).2.2.2, rfl, Nat.le_trans hl hm, ?_, fun i hi => (hq i hi).2.1, fun i hi => ⟨(hq i hi).2.2.1, (hq i hi).2.2.2.1⟩, fun i hi => (hq i hi).2.2.2.2⟩
    exact (slAt_of fun i hi => (hcell i (by omega)).1).congr fun i hi => (hq i hi).1

set_option maxRecDepth 100000 in
theorem plainFresh_contract (H : Type) (enc : TypeId × Value → H) (W : World) (base : Nat) (args : Array Value) (ds gs : List (DataW H)) (before : List MemPlace)
    (hval : ∀ (j : Nat) t v, Tryd.f7.params[j]? = some t → args[j]? = some v → Value.okWide Tryd.prog W .any base t v)
    (hW : DataW.Whole enc Tryd.prog Tryd.f7.params.toList Rows.plainFreshSpec.vars false W args.toList ds gs before)
    (hZ : (DataW.weightsEach Tryd.prog (Tryd.f7.params.toList ++ (OpenSpec.ofChange Rows.plainFreshSpec).bare.plain.varTypes Tryd.prog) (ds ++ gs)).all (· ≤ reachBytes) = true) (hL : laidMetH Tryd.prog laids W) :
    Calls Tryd.prog 7 args W fun e W' => ∃ v, e = .returned v ∧ Rows.plainFreshSpec.post enc Tryd.prog Tryd.f7 false true false false W args v W' := by
  have hW' := hW
  obtain ⟨p, q, hA, hV, _, _, _⟩ := hW
  rw [Tryd.params7] at hA hval hZ
  obtain ⟨v0, vs0, d0, ds0, p0, q0, hargs, rfl, rfl, h0, r0⟩ := trodAll_cons hA
  obtain ⟨rfl, rfl, rfl⟩ := trodAll_nil r0
  obtain rfl : args = #[v0] := by cases args; simp_all
  obtain ⟨rfl, rfl⟩ := trodVars_none hV
  obtain ⟨A, n, cap, LA, ln, lc, lf, rfl, hn, hS⟩ := open_lists (hval 0 _ v0 rfl rfl) h0 hZ (j := 0) rfl rfl
  refine (plainFresh_calls A n cap LA ln lc lf W hn hS (tables hL)).mono fun e W' ⟨he, hF⟩ => ?_
  subst he
  exact ⟨_, rfl, post_law laidOut (by kernel_rfl) (by kernel_rfl) Tryd.underlying4 hW' rfl rfl rfl rfl hF⟩

theorem plainFresh_met (os : Os) : laidMet Tryd.prog laids ((laidWorld os).forCall (fun _ _ => 0) ⟨#[], #[.slice none 0 0], []⟩).memory := laidMet_of_run' 8 (by kernel_rfl) (by kernel_rfl)
theorem plainFresh_reads (os : Os) {H : Type} (enc : TypeId × Value → H) : ∃ places, DataW.whole enc Tryd.prog ((laidWorld os).forCall (fun _ _ => 0) ⟨#[], #[.slice none 0 0], []⟩).memory Tryd.f7.params.toList Rows.plainFreshSpec.vars false (#[.slice none 0 0] : Array Value).toList 8 = some ([.nil], [], places) :=
  ⟨[], by kernel_rfl⟩

set_option maxRecDepth 100000 in
theorem plainFresh_lifted (os : Os) (started : os.Started) (H : Type) (enc : TypeId × Value → H) (F : Stop.Interp) :
    ReturnsInHanded {} Tryd.checked os 7 .any ((OpenSpec.ofChange Rows.plainFreshSpec).preRow enc Tryd.prog Tryd.f7 Rows.plainFreshRow.domain false Rows.plainFreshRow.laid) (((OpenSpec.ofChange Rows.plainFreshSpec).at F).post enc Tryd.prog Tryd.f7 false true false false) := by
  obtain ⟨places, hx⟩ := plainFresh_reads os enc
  refine returnsInHanded_of_row (C := Tryd.checked) (s := (OpenSpec.ofChange Rows.plainFreshSpec)) own started (by kernel_rfl) Tryd.func7
    (witness_row_at (enc := enc) (C := Tryd.checked) false (laidWorld os) #[.slice none 0 0] rfl (by kernel_rfl) (by kernel_rfl) (by kernel_rfl)
      (OpenSpec.preRow_of_cond 8 hx (by kernel_rfl) (fun k hk => by cases hk) (by kernel_rfl) (plainFresh_met os))) ?_
  intro W base args ds gs before hval hW _ hcond hZ hL _ _
  exact plainFresh_contract H enc W base args ds gs before hval hW hZ hL

theorem plainFresh_said : Rows.PlainFreshSaid :=
  OpenClaim.holds_of_cond 7 Tryd.f7 rfl rfl rfl rfl rfl rfl rfl ⟨rfl, rfl, rfl, rfl, rfl⟩ rfl rfl rfl rfl rfl (by kernel_rfl) Tryd.func7 (by kernel_rfl)
    (of_decide_eq_true (by kernel_rfl)) (by unfold Func.isWrapper; first | (rw [if_pos (by decide +kernel)]; kernel_rfl) | (rw [if_neg (by decide +kernel)]; exact ⟨rfl, rfl⟩))
    (fun os started H enc _ F => by rw [OpenClaim.pre_eq_preRow]; exact plainFresh_lifted os started H enc F)

/-- No parameter wants a stand-in; the program's own looks are off. -/
theorem plainFresh_plain (f : FuncId) (fn : Func) (hf : Tryd.pinned.checked.prog.funcNamed "massif/massiflaw08.PlainFresh" = some f) (hfn : Tryd.pinned.checked.prog.funcs[f]? = some fn) :
    false = Tryd.pinned.checked.prog.looks [] ∧ ∀ (j : Nat) t, fn.params[j]? = some t → Tryd.pinned.checked.prog.wantsStandIn t = false := by
  obtain rfl : f = 7 := Option.some.inj ((show Tryd.prog.funcNamed "massif/massiflaw08.PlainFresh" = some 7 by kernel_rfl).symm.trans hf) |>.symm
  obtain rfl : fn = Tryd.f7 := (Option.some.inj (Tryd.func7.symm.trans hfn)).symm
  refine ⟨by kernel_rfl, fun j t ht => ?_⟩
  rw [Tryd.params7] at ht
  have h : t = 48 := by simpa using Array.mem_of_getElem? ht
  rcases h with rfl
  exact (show Tryd.prog.wantsStandIn 48 = false by kernel_rfl)

theorem plainFresh_card : Rows.PlainFreshCardSaid :=
  Claim7.holds_tied_plain_at .later [] _ _ _ _ plainFresh_said (fun _ h => by cases h) (by kernel_rfl) (fun _ h => by cases h) plainFresh_row_tie rfl ⟨rfl, rfl⟩ (by kernel_rfl) rfl plainFresh_plain (by kernel_rfl)


end Go.Proofs.YtldiecblcnoleaaDoor.Laws
