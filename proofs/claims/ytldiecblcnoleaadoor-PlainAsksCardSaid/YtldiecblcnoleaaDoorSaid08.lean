/- PlainAsks: for every strength, list and block the law returns true. No condition. -/
import Derived.Test.YtldiecblcnoleaaDoorSized
import Derived.Test.YtldiecblcnoleaaDoorAsks08
import Derived.Test.YtldiecblcnoleaaDoorCards
import Derived.Test.YtldiecblcnoleaaDoorTie
import Derived.Lib.SmallJoins
namespace Go.Proofs.YtldiecblcnoleaaDoor.Laws
open Go.RowKit Go.ChangeShapes Go.WideShapes Go.ChangeAt Go.Proofs.YtldiecblcnoleaaDoor.Mem Go.Proofs.YtldiecblcnoleaaDoor.Sha Go.Proofs.YtldiecblcnoleaaDoor.Plain
set_option linter.unusedVariables false

theorem u64_of_wf {n : Int} (h : (Lit.int .u64 n).wf = true) : 0 ≤ n ∧ n < 18446744073709551616 := by
  simp only [Lit.wf, Bool.and_eq_true, decide_eq_true_eq] at h
  obtain ⟨h1, h2⟩ := h
  have h1' : 0 ≤ n := h1
  have h2' : n ≤ 18446744073709551615 := h2
  omega

theorem cellsBlock : Tryd.prog.cellsOf 52 = 2 := by kernel_rfl

set_option maxRecDepth 100000 in
/-- A block among the arguments, opened. -/
theorem open_block {H : Type} {enc : TypeId × Value → H} {W : World} {v : Value} {d : DataW H} {p : List MemPlace} {base : Nat} (hok : Value.okWide Tryd.prog W .any base 52 v)
    (h : DataW.Trod enc Tryd.prog W 0 (fun _ => true) true 52 v d p) : ∃ (z : Int) (K : Nat), v = .agg #[.int .i64 z, .int .u64 (K : Int)] ∧ K < 18446744073709551616 := by
  obtain ⟨v0, v1, y0, y1, n, rfl, _, _, h0, h1⟩ := Go.Joins.open_agg2 Tryd.underlying52 (by kernel_rfl) cellsBlock hok h
  obtain ⟨z0, e0, _, w0⟩ := DataW.trod_int Tryd.underlying3 h0
  obtain ⟨z1, e1, _, w1⟩ := DataW.trod_int Tryd.underlying36 h1
  simp only [List.cons.injEq, and_true] at e0 e1
  obtain ⟨hl, hu⟩ := u64_of_wf w1
  refine ⟨z0, z1.toNat, ?_, by omega⟩
  rw [e0, e1]
  congr
  omega

set_option maxRecDepth 100000 in
theorem plainAsks_contract (H : Type) (enc : TypeId × Value → H) (W : World) (base : Nat) (args : Array Value) (ds gs : List (DataW H)) (before : List MemPlace)
    (hval : ∀ (j : Nat) t v, Tryd.f8.params[j]? = some t → args[j]? = some v → Value.okWide Tryd.prog W .any base t v)
    (hW : DataW.Whole enc Tryd.prog Tryd.f8.params.toList Rows.plainAsksSpec.vars false W args.toList ds gs before)
    (hZ : (DataW.weightsEach Tryd.prog (Tryd.f8.params.toList ++ (OpenSpec.ofChange Rows.plainAsksSpec).bare.plain.varTypes Tryd.prog) (ds ++ gs)).all (· ≤ reachBytes) = true) (hL : laidMetH Tryd.prog laids W) :
    Calls Tryd.prog 8 args W fun e W' => ∃ v, e = .returned v ∧ Rows.plainAsksSpec.post enc Tryd.prog Tryd.f8 false true false false W args v W' := by
  have hW' := hW
  obtain ⟨p, q, hA, hV, _, _, _⟩ := hW
  rw [Tryd.params8] at hA hval hZ
  obtain ⟨v0, vs0, d0, ds0, p0, q0, hargs, rfl, rfl, h0, r0⟩ := trodAll_cons hA
  obtain ⟨v1, vs1, d1, ds1, p1, q1, rfl, rfl, rfl, h1, r1⟩ := trodAll_cons r0
  obtain ⟨v2, vs2, d2, ds2, p2, q2, rfl, rfl, rfl, h2, r2⟩ := trodAll_cons r1
  obtain ⟨rfl, rfl, rfl⟩ := trodAll_nil r2
  obtain rfl : args = #[v0, v1, v2] := by cases args; simp_all
  obtain ⟨rfl, rfl⟩ := trodVars_none hV
  obtain ⟨n0, rfl, rfl, _, hw0⟩ := open_int Tryd.underlying3 (hval 0 _ v0 rfl rfl) h0
  obtain ⟨A, n, cap, f, rfl, hn, hs, hS, hnil, hnc, hcap⟩ := open_list_cap (hval 1 _ v1 rfl rfl) h1 hZ (j := 1) rfl rfl
  obtain ⟨z, K, rfl, hK⟩ := open_block (hval 2 _ v2 rfl rfl) h2
  refine (plainAsks_calls n0 A n cap f z K W hnc hcap (fun i hi => Nat.le_trans (hs i hi) (by decide)) hS hnil hK (tables hL)).mono fun e W' ⟨he, hF⟩ => ?_
  subst he
  exact ⟨_, rfl, post_law laidOut (by kernel_rfl) (by kernel_rfl) Tryd.underlying4 hW' rfl rfl rfl rfl hF⟩

theorem plainAsks_met (os : Os) : laidMet Tryd.prog laids ((laidWorld os).forCall (fun _ _ => 0) ⟨#[], #[.int .i64 0, .slice none 0 0, .agg #[.int .i64 0, .int .u64 0]], []⟩).memory := laidMet_of_run' 8 (by kernel_rfl) (by kernel_rfl)
theorem plainAsks_reads (os : Os) {H : Type} (enc : TypeId × Value → H) : ∃ places, DataW.whole enc Tryd.prog ((laidWorld os).forCall (fun _ _ => 0) ⟨#[], #[.int .i64 0, .slice none 0 0, .agg #[.int .i64 0, .int .u64 0]], []⟩).memory Tryd.f8.params.toList Rows.plainAsksSpec.vars false (#[.int .i64 0, .slice none 0 0, .agg #[.int .i64 0, .int .u64 0]] : Array Value).toList 8 = some ([.lit (.int .i64 0), .nil, .agg [.lit (.int .i64 0), .lit (.int .u64 0)]], [], places) :=
  ⟨[], by kernel_rfl⟩

set_option maxRecDepth 100000 in
theorem plainAsks_lifted (os : Os) (started : os.Started) (H : Type) (enc : TypeId × Value → H) (F : Stop.Interp) :
    ReturnsInHanded {} Tryd.checked os 8 .any ((OpenSpec.ofChange Rows.plainAsksSpec).preRow enc Tryd.prog Tryd.f8 Rows.plainAsksRow.domain false Rows.plainAsksRow.laid) (((OpenSpec.ofChange Rows.plainAsksSpec).at F).post enc Tryd.prog Tryd.f8 false true false false) := by
  obtain ⟨places, hx⟩ := plainAsks_reads os enc
  refine returnsInHanded_of_row (C := Tryd.checked) (s := (OpenSpec.ofChange Rows.plainAsksSpec)) own started (by kernel_rfl) Tryd.func8
    (witness_row_at (enc := enc) (C := Tryd.checked) false (laidWorld os) #[.int .i64 0, .slice none 0 0, .agg #[.int .i64 0, .int .u64 0]] rfl (by kernel_rfl) (by kernel_rfl) (by kernel_rfl)
      (OpenSpec.preRow_of_cond 8 hx (by kernel_rfl) (fun k hk => by cases hk) (by kernel_rfl) (plainAsks_met os))) ?_
  intro W base args ds gs before hval hW _ hcond hZ hL _ _
  exact plainAsks_contract H enc W base args ds gs before hval hW hZ hL

theorem plainAsks_said : Rows.PlainAsksSaid :=
  OpenClaim.holds_of_cond 8 Tryd.f8 rfl rfl rfl rfl rfl rfl rfl ⟨rfl, rfl, rfl, rfl, rfl⟩ rfl rfl rfl rfl rfl (by kernel_rfl) Tryd.func8 (by kernel_rfl)
    (of_decide_eq_true (by kernel_rfl)) (by unfold Func.isWrapper; first | (rw [if_pos (by decide +kernel)]; kernel_rfl) | (rw [if_neg (by decide +kernel)]; exact ⟨rfl, rfl⟩))
    (fun os started H enc _ F => by rw [OpenClaim.pre_eq_preRow]; exact plainAsks_lifted os started H enc F)

/-- No parameter wants a stand-in; the program's own looks are off. -/
theorem plainAsks_plain (f : FuncId) (fn : Func) (hf : Tryd.pinned.checked.prog.funcNamed "massif/massiflaw08.PlainAsks" = some f) (hfn : Tryd.pinned.checked.prog.funcs[f]? = some fn) :
    false = Tryd.pinned.checked.prog.looks [] ∧ ∀ (j : Nat) t, fn.params[j]? = some t → Tryd.pinned.checked.prog.wantsStandIn t = false := by
  obtain rfl : f = 8 := Option.some.inj ((show Tryd.prog.funcNamed "massif/massiflaw08.PlainAsks" = some 8 by kernel_rfl).symm.trans hf) |>.symm
  obtain rfl : fn = Tryd.f8 := (Option.some.inj (Tryd.func8.symm.trans hfn)).symm
  refine ⟨by kernel_rfl, fun j t ht => ?_⟩
  rw [Tryd.params8] at ht
  have h : t = 3 ∨ t = 22 ∨ t = 52 := by simpa using Array.mem_of_getElem? ht
  rcases h with rfl | rfl | rfl
  · exact (show Tryd.prog.wantsStandIn 3 = false by kernel_rfl)
  · exact (show Tryd.prog.wantsStandIn 22 = false by kernel_rfl)
  · exact (show Tryd.prog.wantsStandIn 52 = false by kernel_rfl)

theorem plainAsks_card : Rows.PlainAsksCardSaid :=
  Claim7.holds_tied_plain_at .later [] _ _ _ _ plainAsks_said (fun _ h => by cases h) (by kernel_rfl) (fun _ h => by cases h) plainAsks_row_tie rfl ⟨rfl, rfl⟩ (by kernel_rfl) rfl plainAsks_plain (by kernel_rfl)


end Go.Proofs.YtldiecblcnoleaaDoor.Laws
