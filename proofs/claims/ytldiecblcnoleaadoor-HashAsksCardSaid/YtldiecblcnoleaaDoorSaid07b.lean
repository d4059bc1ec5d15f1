/- HashAsks: for every strength, texts and peaks the law returns true. No condition. -/
import Derived.Test.YtldiecblcnoleaaDoorSized
import Derived.Test.YtldiecblcnoleaaDoorLaw07b
import Derived.Test.YtldiecblcnoleaaDoorCards
import Derived.Test.YtldiecblcnoleaaDoorTie
namespace Go.Proofs.YtldiecblcnoleaaDoor.Laws
open Go.RowKit Go.ChangeShapes Go.WideShapes Go.ChangeAt Go.Proofs.YtldiecblcnoleaaDoor.Mem Go.Proofs.YtldiecblcnoleaaDoor.Sha Go.Proofs.YtldiecblcnoleaaDoor.Law07
set_option linter.unusedVariables false

theorem cells2s : Tryd.prog.cellsOf 35 = 2 := by kernel_rfl

set_option maxRecDepth 100000 in
/-- Two strings in an array, opened. -/
theorem open_pair {H : Type} {enc : TypeId × Value → H} {W : World} {v : Value} {d : DataW H} {p : List MemPlace} {base : Nat} (hok : Value.okWide Tryd.prog W .any base 35 v)
    (h : DataW.Trod enc Tryd.prog W 0 (fun _ => true) true 35 v d p) :
    ∃ a b : ByteArray, v = .agg #[.string a, .string b] ∧ d = .agg [.lit (.string a.data.toList), .lit (.string b.data.toList)] := by
  simp only [Value.okWide, Tryd.underlying35] at hok
  obtain ⟨cs, rfl, hsz, _⟩ := hok
  obtain ⟨fuel, hf⟩ := h
  obtain ⟨xs, m, _, hx, hl, hxl, hall⟩ := DataW.trod_array Tryd.underlying35 hf
  have h0 := hall 0 (by omega)
  have h1 := hall 1 (by omega)
  have hcs : (Value.agg cs).cells = cs := rfl
  rw [hcs, cellsStr] at h0 h1
  rw [cells2s] at hsz
  obtain ⟨c0, c1, rfl⟩ : ∃ c0 c1, cs = #[c0, c1] := by
    obtain ⟨l⟩ := cs
    match l, hsz with
    | [c0, c1], _ => exact ⟨c0, c1, rfl⟩
  obtain ⟨x0, x1, rfl⟩ : ∃ x0 x1, xs = [x0, x1] := by
    match xs, hxl with
    | [x0, x1], _ => exact ⟨x0, x1, rfl⟩
  obtain ⟨a, ha, hxa, _⟩ := DataW.trod_string Tryd.underlying9 (show DataW.trod enc Tryd.prog W 0 (fun _ => true) true m 9 [c0] = some x0 from h0)
  obtain ⟨b, hb, hxb, _⟩ := DataW.trod_string Tryd.underlying9 (show DataW.trod enc Tryd.prog W 0 (fun _ => true) true m 9 [c1] = some x1 from h1)
  cases ha
  cases hb
  refine ⟨a, b, rfl, ?_⟩
  have := congrArg Prod.fst hx
  rw [hxa, hxb] at this
  exact this

set_option maxRecDepth 100000 in
theorem hashAsks_contract (H : Type) (enc : TypeId × Value → H) (W : World) (base : Nat) (args : Array Value) (ds gs : List (DataW H)) (before : List MemPlace)
    (hval : ∀ (j : Nat) t v, Tryd.f6.params[j]? = some t → args[j]? = some v → Value.okWide Tryd.prog W .any base t v)
    (hW : DataW.Whole enc Tryd.prog Tryd.f6.params.toList Rows.hashAsksSpec.vars false W args.toList ds gs before)
    (hZ : (DataW.weightsEach Tryd.prog (Tryd.f6.params.toList ++ (OpenSpec.ofChange Rows.hashAsksSpec).bare.plain.varTypes Tryd.prog) (ds ++ gs)).all (· ≤ reachBytes) = true) (hL : laidMetH Tryd.prog laids W) :
    Calls Tryd.prog 6 args W fun e W' => ∃ v, e = .returned v ∧ Rows.hashAsksSpec.post enc Tryd.prog Tryd.f6 false true false false W args v W' := by
  have hW' := hW
  obtain ⟨p, q, hA, hV, _, _, _⟩ := hW
  rw [Tryd.params6] at hA hval hZ
  obtain ⟨v0, vs0, d0, ds0, p0, q0, hargs, rfl, rfl, h0, r0⟩ := trodAll_cons hA
  obtain ⟨v1, vs1, d1, ds1, p1, q1, rfl, rfl, rfl, h1, r1⟩ := trodAll_cons r0
  obtain ⟨v2, vs2, d2, ds2, p2, q2, rfl, rfl, rfl, h2, r2⟩ := trodAll_cons r1
  obtain ⟨rfl, rfl, rfl⟩ := trodAll_nil r2
  obtain rfl : args = #[v0, v1, v2] := by cases args; simp_all
  obtain ⟨rfl, rfl⟩ := trodVars_none hV
  obtain ⟨n0, rfl, rfl, _, hw0⟩ := open_int Tryd.underlying3 (hval 0 _ v0 rfl rfl) h0
  obtain ⟨a, b, rfl, rfl⟩ := open_pair (hval 1 _ v1 rfl rfl) h1
  obtain ⟨A, n, cap, f, rfl, hn, hs, hS, hnil⟩ := open_list_sized (hval 2 _ v2 rfl rfl) h2 hZ (j := 2) rfl rfl
  have ha : a.data.toList.length ≤ reachBytes := sized_mem hZ (j := 1) (t := 35) rfl rfl (by simp [DataW.weights, DataW.weightsAll, Tryd.underlying35])
  have hb : b.data.toList.length ≤ reachBytes := sized_mem hZ (j := 1) (t := 35) rfl rfl (by simp [DataW.weights, DataW.weightsAll, Tryd.underlying35])
  rw [reach_is, ← Lib.size_eq] at ha hb
  refine (hashAsks_calls n0 a b A n cap f W (by omega) (by omega) (by omega) (fun i hi => Nat.le_trans (hs i hi) (by decide)) hS hnil (tables hL)).mono fun e W' ⟨he, hF⟩ => ?_
  subst he
  exact ⟨_, rfl, post_law laidOut (by kernel_rfl) (by kernel_rfl) Tryd.underlying4 hW' rfl rfl rfl rfl hF⟩

theorem hashAsks_met (os : Os) : laidMet Tryd.prog laids ((laidWorld os).forCall (fun _ _ => 0) ⟨#[], #[.int .i64 0, .agg #[.string ⟨#[]⟩, .string ⟨#[]⟩], .slice none 0 0], []⟩).memory := laidMet_of_run' 8 (by kernel_rfl) (by kernel_rfl)
theorem hashAsks_reads (os : Os) {H : Type} (enc : TypeId × Value → H) : ∃ places, DataW.whole enc Tryd.prog ((laidWorld os).forCall (fun _ _ => 0) ⟨#[], #[.int .i64 0, .agg #[.string ⟨#[]⟩, .string ⟨#[]⟩], .slice none 0 0], []⟩).memory Tryd.f6.params.toList Rows.hashAsksSpec.vars false (#[.int .i64 0, .agg #[.string ⟨#[]⟩, .string ⟨#[]⟩], .slice none 0 0] : Array Value).toList 8 = some ([.lit (.int .i64 0), .agg [.lit (.string []), .lit (.string [])], .nil], [], places) :=
  ⟨[], by kernel_rfl⟩

set_option maxRecDepth 100000 in
theorem hashAsks_lifted (os : Os) (started : os.Started) (H : Type) (enc : TypeId × Value → H) (F : Stop.Interp) :
    ReturnsInHanded {} Tryd.checked os 6 .any ((OpenSpec.ofChange Rows.hashAsksSpec).preRow enc Tryd.prog Tryd.f6 Rows.hashAsksRow.domain false Rows.hashAsksRow.laid) (((OpenSpec.ofChange Rows.hashAsksSpec).at F).post enc Tryd.prog Tryd.f6 false true false false) := by
  obtain ⟨places, hx⟩ := hashAsks_reads os enc
  refine returnsInHanded_of_row (C := Tryd.checked) (s := (OpenSpec.ofChange Rows.hashAsksSpec)) own started (by kernel_rfl) Tryd.func6
    (witness_row_at (enc := enc) (C := Tryd.checked) false (laidWorld os) #[.int .i64 0, .agg #[.string ⟨#[]⟩, .string ⟨#[]⟩], .slice none 0 0] rfl (by kernel_rfl) (by kernel_rfl) (by kernel_rfl)
      (OpenSpec.preRow_of_cond 8 hx (by kernel_rfl) (fun k hk => by cases hk) (by kernel_rfl) (hashAsks_met os))) ?_
  intro W base args ds gs before hval hW _ hcond hZ hL _ _
  exact hashAsks_contract H enc W base args ds gs before hval hW hZ hL

theorem hashAsks_said : Rows.HashAsksSaid :=
  OpenClaim.holds_of_cond 6 Tryd.f6 rfl rfl rfl rfl rfl rfl rfl ⟨rfl, rfl, rfl, rfl, rfl⟩ rfl rfl rfl rfl rfl (by kernel_rfl) Tryd.func6 (by kernel_rfl)
    (of_decide_eq_true (by kernel_rfl)) (by unfold Func.isWrapper; first | (rw [if_pos (by decide +kernel)]; kernel_rfl) | (rw [if_neg (by decide +kernel)]; exact ⟨rfl, rfl⟩))
    (fun os started H enc _ F => by rw [OpenClaim.pre_eq_preRow]; exact hashAsks_lifted os started H enc F)

/-- No parameter wants a stand-in; the program's own looks are off. -/
theorem hashAsks_plain (f : FuncId) (fn : Func) (hf : Tryd.pinned.checked.prog.funcNamed "massif/massiflaw07.HashAsks" = some f) (hfn : Tryd.pinned.checked.prog.funcs[f]? = some fn) :
    false = Tryd.pinned.checked.prog.looks [] ∧ ∀ (j : Nat) t, fn.params[j]? = some t → Tryd.pinned.checked.prog.wantsStandIn t = false := by
  obtain rfl : f = 6 := Option.some.inj ((show Tryd.prog.funcNamed "massif/massiflaw07.HashAsks" = some 6 by kernel_rfl).symm.trans hf) |>.symm
  obtain rfl : fn = Tryd.f6 := (Option.some.inj (Tryd.func6.symm.trans hfn)).symm
  refine ⟨by kernel_rfl, fun j t ht => ?_⟩
  rw [Tryd.params6] at ht
  have h : t = 3 ∨ t = 35 ∨ t = 22 := by simpa using Array.mem_of_getElem? ht
  rcases h with rfl | rfl | rfl
  · exact (show Tryd.prog.wantsStandIn 3 = false by kernel_rfl)
  · exact (show Tryd.prog.wantsStandIn 35 = false by kernel_rfl)
  · exact (show Tryd.prog.wantsStandIn 22 = false by kernel_rfl)

theorem hashAsks_card : Rows.HashAsksCardSaid :=
  Claim7.holds_tied_plain_at .later [] _ _ _ _ hashAsks_said (fun _ h => by cases h) (by kernel_rfl) (fun _ h => by cases h) hashAsks_row_tie rfl ⟨rfl, rfl⟩ (by kernel_rfl) rfl hashAsks_plain (by kernel_rfl)

end Go.Proofs.YtldiecblcnoleaaDoor.Laws
