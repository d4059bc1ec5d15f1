/- ShaLengths: for every byte and every number the law returns true. No condition. -/
import Derived.Test.YtldiecblcnoleaaDoorLaws
import Derived.Test.YtldiecblcnoleaaDoorLaw01b
import Derived.Test.YtldiecblcnoleaaDoorCards
import Derived.Test.YtldiecblcnoleaaDoorTie
namespace Go.Proofs.YtldiecblcnoleaaDoor.Laws
open Go.RowKit Go.ChangeShapes Go.WideShapes Go.ChangeAt Go.Proofs.YtldiecblcnoleaaDoor.Mem Go.Proofs.YtldiecblcnoleaaDoor.Sha Go.Proofs.YtldiecblcnoleaaDoor.Law01
set_option linter.unusedVariables false

theorem byte_of_wf {n : Int} (h : (Lit.int .u8 n).wf = true) : ∃ x : UInt8, n = (x.toNat : Int) := by
  simp only [Lit.wf, Bool.and_eq_true, decide_eq_true_eq] at h
  obtain ⟨h1, h2⟩ := h
  have h1' : 0 ≤ n := h1
  have h2' : n ≤ 255 := h2
  refine ⟨UInt8.ofNat n.toNat, ?_⟩
  have : (UInt8.ofNat n.toNat).toNat = n.toNat % 256 := rfl
  rw [this]
  omega

theorem i64_of_wf {n : Int} (h : (Lit.int .i64 n).wf = true) : -9223372036854775808 ≤ n ∧ n < 9223372036854775808 := by
  simp only [Lit.wf, Bool.and_eq_true, decide_eq_true_eq] at h
  obtain ⟨h1, h2⟩ := h
  have h1' : -9223372036854775808 ≤ n := h1
  have h2' : n ≤ 9223372036854775807 := h2
  omega

set_option maxRecDepth 100000 in
theorem shaLengths_contract (H : Type) (enc : TypeId × Value → H) (W : World) (base : Nat) (args : Array Value) (ds gs : List (DataW H)) (before : List MemPlace)
    (hval : ∀ (j : Nat) t v, Tryd.f4.params[j]? = some t → args[j]? = some v → Value.okWide Tryd.prog W .any base t v)
    (hW : DataW.Whole enc Tryd.prog Tryd.f4.params.toList Rows.shaLengthsSpec.vars false W args.toList ds gs before) (hL : laidMetH Tryd.prog laids W) :
    Calls Tryd.prog 4 args W fun e W' => ∃ v, e = .returned v ∧ Rows.shaLengthsSpec.post enc Tryd.prog Tryd.f4 false true false false W args v W' := by
  have hW' := hW
  obtain ⟨p, q, hA, hV, _, _, _⟩ := hW
  rw [Tryd.params4] at hA hval
  obtain ⟨v0, vs0, d0, ds0, p0, q0, hargs, rfl, rfl, h0, r0⟩ := trodAll_cons hA
  obtain ⟨v1, vs1, d1, ds1, p1, q1, rfl, rfl, rfl, h1, r1⟩ := trodAll_cons r0
  obtain ⟨rfl, rfl, rfl⟩ := trodAll_nil r1
  obtain rfl : args = #[v0, v1] := by cases args; simp_all
  obtain ⟨rfl, rfl⟩ := trodVars_none hV
  obtain ⟨n0, rfl, rfl, _, hw0⟩ := open_int Tryd.underlying5 (hval 0 _ v0 rfl rfl) h0
  obtain ⟨n1, rfl, rfl, _, hw1⟩ := open_int Tryd.underlying3 (hval 1 _ v1 rfl rfl) h1
  obtain ⟨x, rfl⟩ := byte_of_wf hw0
  have hi := i64_of_wf hw1
  refine (shaLengths_calls x n1 W hi.1 hi.2 (tables hL)).mono fun e W' ⟨he, hF⟩ => ?_
  subst he
  exact ⟨_, rfl, post_law laidOut (by kernel_rfl) (by kernel_rfl) Tryd.underlying4 hW' rfl rfl rfl rfl hF⟩

theorem shaLengths_met (os : Os) : laidMet Tryd.prog laids ((laidWorld os).forCall (fun _ _ => 0) ⟨#[], #[.int .u8 0, .int .i64 0], []⟩).memory := laidMet_of_run' 8 (by kernel_rfl) (by kernel_rfl)
theorem shaLengths_reads (os : Os) {H : Type} (enc : TypeId × Value → H) : ∃ places, DataW.whole enc Tryd.prog ((laidWorld os).forCall (fun _ _ => 0) ⟨#[], #[.int .u8 0, .int .i64 0], []⟩).memory Tryd.f4.params.toList Rows.shaLengthsSpec.vars false (#[.int .u8 0, .int .i64 0] : Array Value).toList 8 = some ([.lit (.int .u8 0), .lit (.int .i64 0)], [], places) :=
  ⟨[], by kernel_rfl⟩

set_option maxRecDepth 100000 in
theorem shaLengths_lifted (os : Os) (started : os.Started) (H : Type) (enc : TypeId × Value → H) (F : Stop.Interp) :
    ReturnsInHanded {} Tryd.checked os 4 .any ((OpenSpec.ofChange Rows.shaLengthsSpec).preRow enc Tryd.prog Tryd.f4 Rows.shaLengthsRow.domain false Rows.shaLengthsRow.laid) (((OpenSpec.ofChange Rows.shaLengthsSpec).at F).post enc Tryd.prog Tryd.f4 false true false false) := by
  obtain ⟨places, hx⟩ := shaLengths_reads os enc
  refine returnsInHanded_of_row (C := Tryd.checked) (s := (OpenSpec.ofChange Rows.shaLengthsSpec)) own started (by kernel_rfl) Tryd.func4
    (witness_row_at (enc := enc) (C := Tryd.checked) false (laidWorld os) #[.int .u8 0, .int .i64 0] rfl (by kernel_rfl) (by kernel_rfl) (by kernel_rfl)
      (OpenSpec.preRow_of_cond 8 hx (by kernel_rfl) (fun k hk => by cases hk) (by kernel_rfl) (shaLengths_met os))) ?_
  intro W base args ds gs before hval hW _ hcond _ hL _ _
  exact shaLengths_contract H enc W base args ds gs before hval hW hL

theorem shaLengths_said : Rows.ShaLengthsSaid :=
  OpenClaim.holds_of_cond 4 Tryd.f4 rfl rfl rfl rfl rfl rfl rfl ⟨rfl, rfl, rfl, rfl, rfl⟩ rfl rfl rfl rfl rfl (by kernel_rfl) Tryd.func4 (by kernel_rfl)
    (of_decide_eq_true (by kernel_rfl)) (by unfold Func.isWrapper; first | (rw [if_pos (by decide +kernel)]; kernel_rfl) | (rw [if_neg (by decide +kernel)]; exact ⟨rfl, rfl⟩))
    (fun os started H enc _ F => by rw [OpenClaim.pre_eq_preRow]; exact shaLengths_lifted os started H enc F)

/-- No parameter wants a stand-in; the program's own looks are off. -/
theorem shaLengths_plain (f : FuncId) (fn : Func) (hf : Tryd.pinned.checked.prog.funcNamed "massif/massiflaw01.ShaLengths" = some f) (hfn : Tryd.pinned.checked.prog.funcs[f]? = some fn) :
    false = Tryd.pinned.checked.prog.looks [] ∧ ∀ (j : Nat) t, fn.params[j]? = some t → Tryd.pinned.checked.prog.wantsStandIn t = false := by
  obtain rfl : f = 4 := Option.some.inj ((show Tryd.prog.funcNamed "massif/massiflaw01.ShaLengths" = some 4 by kernel_rfl).symm.trans hf) |>.symm
  obtain rfl : fn = Tryd.f4 := (Option.some.inj (Tryd.func4.symm.trans hfn)).symm
  refine ⟨by kernel_rfl, fun j t ht => ?_⟩
  rw [Tryd.params4] at ht
  have h : t = 5 ∨ t = 3 := by simpa using Array.mem_of_getElem? ht
  rcases h with rfl | rfl
  · exact (show Tryd.prog.wantsStandIn 5 = false by kernel_rfl)
  · exact (show Tryd.prog.wantsStandIn 3 = false by kernel_rfl)

theorem shaLengths_card : Rows.ShaLengthsCardSaid :=
  Claim7.holds_tied_plain_at .later [] _ _ _ _ shaLengths_said (fun _ h => by cases h) (by kernel_rfl) (fun _ h => by cases h) shaLengths_row_tie rfl ⟨rfl, rfl⟩ (by kernel_rfl) rfl shaLengths_plain (by kernel_rfl)

end Go.Proofs.YtldiecblcnoleaaDoor.Laws
