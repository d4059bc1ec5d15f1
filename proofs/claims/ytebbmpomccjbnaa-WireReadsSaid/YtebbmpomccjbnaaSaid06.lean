/- WireReads: for every number, every two texts and every script the law returns true. No condition. -/
import Derived.Test.YtebbmpomccjbnaaWireLaw2
import Derived.Test.YtebbmpomccjbnaaPost
import Derived.Deep.SlicePairs
import Derived.SizedLaws
namespace Go.Proofs.Ytebbmpomccjbnaa.Laws
open Go.RowKit Go.ChangeShapes Go.WideShapes Go.ChangeAt Go.Proofs.Ytebbmpomccjbnaa.Mem Go.Proofs.Ytebbmpomccjbnaa.Wire
open Go.ChangeMaps (open_string)
set_option linter.unusedVariables false

theorem own : ownKnob Try.prog.godebug = none := by kernel_rfl
theorem laidOut : laidOutB Try.prog = true := by kernel_rfl
theorem cellsStep : Try.prog.cellsOf 34 = 2 := by kernel_rfl
theorem cellsInt : Try.prog.cellsOf 3 = 1 := by kernel_rfl
theorem bytesStep : Try.prog.bytesOf 34 = 16 := by kernel_rfl
theorem reach_is : reachBytes = 140737488351232 := by decide

theorem sized_mem {H : Type} {P : Program} {ts : List TypeId} {ds : List (DataW H)} (h : (DataW.weightsEach P ts ds).all (· ≤ reachBytes) = true) {j : Nat} {t : TypeId} {d : DataW H} (ht : ts[j]? = some t) (hd : ds[j]? = some d) {n : Nat} (hn : n ∈ d.weights P t) : n ≤ reachBytes := by
  have := List.all_eq_true.1 h _ (DataW.weights_mem_each ht hd n hn)
  simpa using this

theorem int_of_wf {n : Int} (h : (Lit.int .i64 n).wf = true) : -9223372036854775808 ≤ n ∧ n < 9223372036854775808 := by
  simp only [Lit.wf, Bool.and_eq_true, decide_eq_true_eq] at h
  obtain ⟨h1, h2⟩ := h
  have h1' : -9223372036854775808 ≤ n := h1
  have h2' : n ≤ 9223372036854775807 := h2
  omega

theorem u64_of_wf {n : Int} (h : (Lit.int .u64 n).wf = true) : 0 ≤ n ∧ n < 18446744073709551616 := by
  simp only [Lit.wf, Bool.and_eq_true, decide_eq_true_eq] at h
  obtain ⟨h1, h2⟩ := h
  have h1' : 0 ≤ n := h1
  have h2' : n ≤ 18446744073709551615 := h2
  omega

set_option maxRecDepth 100000 in
/-- A script among the arguments, opened. -/
theorem open_steps {H : Type} {enc : TypeId × Value → H} {W : World} {v : Value} {d : DataW H} {p : List MemPlace} {base : Nat} {ts : List TypeId} {ds : List (DataW H)} (hok : Value.okWide Try.prog W .any base 23 v)
    (h : DataW.Trod enc Try.prog W 0 (fun _ => true) true 23 v d p) (hZ : (DataW.weightsEach Try.prog ts ds).all (· ≤ reachBytes) = true) {j : Nat} (ht : ts[j]? = some 23) (hd : ds[j]? = some d) :
    ∃ (A : Option Addr) (n cap : Nat) (sc : Nat → Int), v = .slice A n cap ∧ n * 16 ≤ 140737488351232 ∧ (∀ j, -9223372036854775808 ≤ sc j ∧ sc j < 9223372036854775808) ∧ SlAt W A (n * 2) (fun j => .int .i64 (sc j)) := by
  obtain ⟨a0, len, cap, rfl⟩ := okWide_slice Try.underlying23 hok
  obtain ⟨fuel, hf⟩ := h
  rcases Deep.open_slice_pairs Try.underlying23 Try.underlying34 cellsStep rfl rfl cellsInt cellsInt hf with ⟨hcs, hx⟩ | ⟨a, len', cap', m, n, V0, V1, D0, D1, P0, P1, hcs, _, hl, hm, hmm, hx, hcell⟩
  · change [Value.slice a0 len cap] = _ at hcs
    simp only [List.cons.injEq, Value.slice.injEq, and_true] at hcs
    obtain ⟨rfl, rfl, rfl⟩ := hcs
    exact ⟨none, 0, 0, fun _ => 0, rfl, Nat.zero_le _, fun _ => (by decide : -9223372036854775808 ≤ (0 : Int) ∧ (0 : Int) < 9223372036854775808), .inl rfl⟩
  · change [Value.slice a0 len cap] = _ at hcs
    simp only [List.cons.injEq, Value.slice.injEq, and_true] at hcs
    obtain ⟨rfl, rfl, rfl⟩ := hcs
    rw [if_pos rfl] at hmm
    subst hmm
    have hdd : d = .slice ((List.range len).map fun i => .agg [D0 i, D1 i]) ((List.range (m - len)).map fun j => .agg [D0 (len + j), D1 (len + j)]) := congrArg Prod.fst hx
    rw [hdd] at hd
    have hw := sized_slice hZ ht hd Try.underlying23
    rw [bytesStep, List.length_map, List.length_map, List.length_range, List.length_range, reach_is] at hw
    have hint : ∀ i, i < m → ∃ z0 z1 : Int, V0 i = .int .i64 z0 ∧ V1 i = .int .i64 z1 ∧ (-9223372036854775808 ≤ z0 ∧ z0 < 9223372036854775808) ∧ (-9223372036854775808 ≤ z1 ∧ z1 < 9223372036854775808) := fun i hi => by
      obtain ⟨_, _, h0, h1⟩ := hcell i hi
      obtain ⟨z0, e0, _, w0⟩ := DataW.trod_int Try.underlying3 h0
      obtain ⟨z1, e1, _, w1⟩ := DataW.trod_int Try.underlying3 h1
      simp only [List.cons.injEq, and_true] at e0 e1
      exact ⟨z0, z1, e0, e1, int_of_wf w0, int_of_wf w1⟩
    obtain ⟨z, hz⟩ := Deep.choose_lt (α := Int × Int) (p := fun i q => V0 i = .int .i64 q.1 ∧ V1 i = .int .i64 q.2 ∧ (-9223372036854775808 ≤ q.1 ∧ q.1 < 9223372036854775808) ∧ (-9223372036854775808 ≤ q.2 ∧ q.2 < 9223372036854775808)) (fun i hi => by
      obtain ⟨z0, z1, h⟩ := hint i hi
      exact ⟨(z0, z1), h⟩)
    refine ⟨some a, len, m, fun j => if j / 2 < m then (if j % 2 = 0 then (z (j / 2)).1 else (z (j / 2)).2) else 0, rfl, by omega, fun j => ?_, ?_⟩
    · show _ ≤ (if _ then _ else _) ∧ (if _ then _ else _) < _
      by_cases hj : j / 2 < m
      · obtain ⟨_, _, h1, h2⟩ := hz (j / 2) hj
        rw [if_pos hj]
        split
        · exact h1
        · exact h2
      · rw [if_neg hj]
        exact ⟨by decide, by decide⟩
    · rcases Nat.eq_zero_or_pos len with h0 | h0
      · exact .inl (by omega)
      · obtain ⟨b, off, spot⟩ := a
        have hspot : spot = none := by simpa [Addr.add] using World.cell?_spot (hcell 0 (by omega)).1
        subst hspot
        refine .inr ⟨b, off, rfl, cell_lt (a := ⟨b, off, none⟩) (by simpa [Addr.add] using (hcell 0 (by omega)).1), fun i hi => ?_⟩
        obtain ⟨h1, h2, _⟩ := hz (i / 2) (by omega)
        obtain ⟨c1, c2, _⟩ := hcell (i / 2) (by omega)
        show W.cell? _ = some (.int .i64 (if i / 2 < m then (if i % 2 = 0 then (z (i / 2)).1 else (z (i / 2)).2) else 0))
        rw [if_pos (by omega)]
        rcases Nat.mod_two_eq_zero_or_one i with hm2 | hm2
        · rw [if_pos hm2, ← h1, ← add_plain, show i = i / 2 * 2 by omega]
          rw [show i / 2 * 2 / 2 = i / 2 by omega]
          exact c1
        · rw [if_neg (by omega), ← h2, ← add_plain, show i = i / 2 * 2 + 1 by omega]
          rw [show (i / 2 * 2 + 1) / 2 = i / 2 by omega]
          exact c2

set_option maxRecDepth 100000 in
theorem wireReads_contract (H : Type) (enc : TypeId × Value → H) (W : World) (base : Nat) (args : Array Value) (ds gs : List (DataW H)) (before : List MemPlace)
    (hval : ∀ (j : Nat) t v, Try.f3.params[j]? = some t → args[j]? = some v → Value.okWide Try.prog W .any base t v)
    (hW : DataW.Whole enc Try.prog Try.f3.params.toList Rows.wireReadsSpec.vars false W args.toList ds gs before)
    (hZ : (DataW.weightsEach Try.prog (Try.f3.params.toList ++ Rows.wireReadsSpec.plain.varTypes Try.prog) (ds ++ gs)).all (· ≤ reachBytes) = true) :
    Calls Try.prog 3 args W fun e W' => ∃ v, e = .returned v ∧ Rows.wireReadsSpec.post enc Try.prog Try.f3 false true false false W args v W' := by
  have hW' := hW
  obtain ⟨p, q, hA, hV, _, _, _⟩ := hW
  rw [Try.params3] at hA hval hZ
  obtain ⟨v0, vs0, d0, ds0, p0, q0, hargs, rfl, rfl, h0, r0⟩ := trodAll_cons hA
  obtain ⟨v1, vs1, d1, ds1, p1, q1, rfl, rfl, rfl, h1, r1⟩ := trodAll_cons r0
  obtain ⟨v2, vs2, d2, ds2, p2, q2, rfl, rfl, rfl, h2, r2⟩ := trodAll_cons r1
  obtain ⟨v3, vs3, d3, ds3, p3, q3, rfl, rfl, rfl, h3, r3⟩ := trodAll_cons r2
  obtain ⟨rfl, rfl, rfl⟩ := trodAll_nil r3
  obtain rfl : args = #[v0, v1, v2, v3] := by cases args; simp_all
  obtain ⟨rfl, rfl⟩ := trodVars_none hV
  obtain ⟨n0, rfl, rfl, _, hw0⟩ := open_int Try.underlying22 (hval 0 _ v0 rfl rfl) h0
  obtain ⟨a, rfl, rfl, _, _⟩ := open_string Try.underlying9 (hval 1 _ v1 rfl rfl) h1
  obtain ⟨b, rfl, rfl, _, _⟩ := open_string Try.underlying9 (hval 2 _ v2 rfl rfl) h2
  obtain ⟨A, n, cap, sc, rfl, hn, hsc, hS⟩ := open_steps (hval 3 _ v3 rfl rfl) h3 hZ (j := 3) rfl rfl
  have ha : a.data.toList.length ≤ reachBytes := sized_mem hZ (j := 1) (t := 9) rfl rfl (by simp [DataW.weights])
  have hb : b.data.toList.length ≤ reachBytes := sized_mem hZ (j := 2) (t := 9) rfl rfl (by simp [DataW.weights])
  rw [reach_is, ← Lib.size_eq] at ha hb
  obtain ⟨hl, hu⟩ := u64_of_wf hw0
  obtain ⟨N, rfl⟩ : ∃ N : Nat, n0 = N := ⟨n0.toNat, by omega⟩
  refine (wireReads_calls N a b A n cap sc W (by omega) (by omega) (by omega) (by omega) hsc hS).mono fun e W' ⟨he, hF⟩ => ?_
  subst he
  exact ⟨_, rfl, post_law laidOut (by kernel_rfl) (by kernel_rfl) Try.underlying4 hW' rfl rfl rfl rfl hF⟩

set_option maxRecDepth 100000 in
theorem wireReads_lifted (os : Os) (started : os.Started) (H : Type) (enc : TypeId × Value → H) :
    ReturnsInHanded {} Try.checked os 3 .any (Rows.wireReadsSpec.pre6 enc Try.prog Try.f3 Rows.wireReadsRow.domain false) (Rows.wireReadsSpec.post enc Try.prog Try.f3 false true false false) := by
  refine returnsInHanded_of_change_sized (C := Try.checked) own started (by kernel_rfl) Try.func3
    (ChangeSpec.witness6 (enc := enc) (C := Try.checked) false ⟨#[], #[.int .u64 0, .string ⟨#[]⟩, .string ⟨#[]⟩, .slice none 0 0], []⟩ 8 (by kernel_rfl) (by kernel_rfl) (by kernel_rfl) (by kernel_rfl)) ?_
  intro W base args ds gs before hval hW _ hZ _
  exact wireReads_contract H enc W base args ds gs before hval hW hZ

theorem wireReads_said : Rows.WireReadsSaid :=
  OpenClaim.holds_of_wide 3 Try.f3 rfl rfl rfl rfl rfl rfl rfl ⟨rfl, rfl, rfl, rfl, rfl⟩ rfl rfl rfl rfl rfl (by kernel_rfl) Try.func3 (by kernel_rfl)
    (of_decide_eq_true (by kernel_rfl)) (by unfold Func.isWrapper; first | (rw [if_pos (by decide +kernel)]; kernel_rfl) | (rw [if_neg (by decide +kernel)]; exact ⟨rfl, rfl⟩))
    (fun os started H enc _ => wireReads_lifted os started H enc)

end Go.Proofs.Ytebbmpomccjbnaa.Laws
