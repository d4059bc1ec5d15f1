/- ApiErrors: the law returns true. No condition. -/
import Derived.Test.YtebbmpomccjbnaaDoorPost
import Derived.Test.YtebbmpomccjbnaaDoorErrLaw
import Derived.Deep.DeepHandedRow
import Derived.Lib.LaidTab
import Derived.Stop.LaidErr
import Derived.Test.YtebbmpomccjbnaaDoorCards
import Derived.Test.YtebbmpomccjbnaaDoorTie
namespace Go.Proofs.YtebbmpomccjbnaaDoor.Laws
open Go.RowKit Go.ChangeShapes Go.WideShapes Go.ChangeAt Go.Proofs.YtebbmpomccjbnaaDoor.Mem Go.Proofs.YtebbmpomccjbnaaDoor.Err
set_option linter.unusedVariables false

theorem own : ownKnob Tryd.prog.godebug = none := by kernel_rfl
theorem laidOut : laidOutB Tryd.prog = true := by kernel_rfl
theorem gPow : Tryd.prog.globalNamed "internal/strconv.uint64pow10" = some 0 := by kernel_rfl
theorem tPow : (Tryd.prog.globals[0]?).map (·.type) = some 38 := by kernel_rfl
theorem cells20 : Tryd.prog.cellsOf 38 = 20 := by kernel_rfl
theorem cellsU64 : Tryd.prog.cellsOf 30 = 1 := by kernel_rfl
theorem g32 : Tryd.prog.globalNamed "math/bits.deBruijn32tab" = some 1 := by kernel_rfl
theorem g64 : Tryd.prog.globalNamed "math/bits.deBruijn64tab" = some 2 := by kernel_rfl

def tab32 : List Int := [0, 1, 28, 2, 29, 14, 24, 3, 30, 22, 20, 15, 25, 17, 4, 8, 31, 27, 13, 23, 21, 19, 16, 7, 26, 12, 18, 6, 11, 5, 10, 9]
def tab64 : List Int := [0, 1, 56, 2, 57, 49, 28, 3, 61, 58, 42, 50, 38, 29, 17, 4, 62, 47, 59, 36, 45, 43, 51, 22, 53, 39, 33, 30, 24, 18, 12, 5, 63, 55, 48, 27, 60, 41, 37, 16, 46, 35, 44, 21, 52, 32, 23, 11, 54, 26, 40, 15, 34, 20, 31, 10, 25, 14, 19, 9, 13, 8, 7, 6]
def pow10 : List Int := [1, 10, 100, 1000, 10000, 100000, 1000000, 10000000, 100000000, 1000000000, 10000000000, 100000000000, 1000000000000, 10000000000000, 100000000000000, 1000000000000000, 10000000000000000, 100000000000000000, 1000000000000000000, 10000000000000000000]
def laids : List (String × DataW Unit) := [("math/bits.deBruijn32tab", Lib.tabData .u8 tab32), ("math/bits.deBruijn64tab", Lib.tabData .u8 tab64), ("internal/strconv.uint64pow10", Lib.tabData .u64 pow10)]

/-- What the list gives. -/
theorem tables {W : World} (h : laidMetH Tryd.prog laids W) : W.cell? ⟨0, 2, none⟩ = some (.int .u64 100) ∧ 0 < W.heap.size := by
  have h0 : laidMet Tryd.prog laids W := h
  have t0 : Lib.TabIs Tryd.prog W "internal/strconv.uint64pow10" .u64 pow10 := Lib.tabIs_of_head gPow tPow Tryd.underlying38 Tryd.underlying30 cellsU64 cells20 h0.tail.tail
  refine ⟨t0.cell gPow 2 (by decide), ?_⟩
  have h1 := t0
  unfold Lib.TabIs World.var? at h1
  rw [gPow] at h1
  simp only [Option.bind_some] at h1
  cases hh : W.heap[0]? with
  | none => rw [hh] at h1; cases h1
  | some o => exact (Array.getElem?_eq_some_iff.1 hh).1

def laidIn (k : IntKind) (zs : List Int) : Obj → Obj
  | .cells _ t frozen => .cells (zs.map fun z => Value.int k z).toArray t frozen
  | o => o

/-- A world for the witness. -/
noncomputable def laidWorld (os : Os) : World :=
  { World.holding Tryd.prog os ⟨#[], #[], []⟩ with heap := (((World.holding Tryd.prog os ⟨#[], #[], []⟩).heap.modify 0 (laidIn .u64 pow10)).modify 1 (laidIn .u8 tab32)).modify 2 (laidIn .u8 tab64) }

set_option maxRecDepth 100000 in
theorem apiErrors_contract (H : Type) (enc : TypeId × Value → H) (W : World) (base : Nat) (args : Array Value) (ds gs : List (DataW H)) (before : List MemPlace)
    (hval : ∀ (j : Nat) t v, Tryd.f3.params[j]? = some t → args[j]? = some v → Value.okWide Tryd.prog W .any base t v)
    (hW : DataW.Whole enc Tryd.prog Tryd.f3.params.toList Rows.apiErrorsSpec.vars false W args.toList ds gs before) (hL : laidMetH Tryd.prog laids W) :
    Calls Tryd.prog 3 args W fun e W' => ∃ v, e = .returned v ∧ Rows.apiErrorsSpec.post enc Tryd.prog Tryd.f3 false true false false W args v W' := by
  have hW' := hW
  obtain ⟨p, q, hA, hV, _, _, _⟩ := hW
  rw [Tryd.params3] at hA hval
  obtain ⟨hargs, rfl, rfl⟩ := trodAll_nil hA
  obtain rfl : args = #[] := by cases args; simp_all
  obtain ⟨rfl, rfl⟩ := trodVars_none hV
  obtain ⟨h1, h2⟩ := tables hL
  refine (apiErrors_calls W h1 h2).mono fun e W' ⟨he, hF⟩ => ?_
  subst he
  exact ⟨_, rfl, post_law laidOut (by kernel_rfl) (by kernel_rfl) Tryd.underlying4 hW' rfl rfl rfl rfl hF⟩

theorem apiErrors_met (os : Os) : laidMet Tryd.prog laids ((laidWorld os).forCall (fun _ _ => 0) ⟨#[], #[], []⟩).memory := laidMet_of_run' 8 (by kernel_rfl) (by kernel_rfl)
theorem apiErrors_reads (os : Os) {H : Type} (enc : TypeId × Value → H) : ∃ places, DataW.whole enc Tryd.prog ((laidWorld os).forCall (fun _ _ => 0) ⟨#[], #[], []⟩).memory Tryd.f3.params.toList Rows.apiErrorsSpec.vars false (#[] : Array Value).toList 8 = some ([], [], places) :=
  ⟨[], by kernel_rfl⟩

set_option maxRecDepth 100000 in
theorem apiErrors_lifted (os : Os) (started : os.Started) (H : Type) (enc : TypeId × Value → H) (F : Stop.Interp) :
    ReturnsInHanded {} Tryd.checked os 3 .any ((OpenSpec.ofChange Rows.apiErrorsSpec).preRow enc Tryd.prog Tryd.f3 Rows.apiErrorsRow.domain false Rows.apiErrorsRow.laid) (((OpenSpec.ofChange Rows.apiErrorsSpec).at F).post enc Tryd.prog Tryd.f3 false true false false) := by
  obtain ⟨places, hx⟩ := apiErrors_reads os enc
  refine returnsInHanded_of_row (C := Tryd.checked) (s := (OpenSpec.ofChange Rows.apiErrorsSpec)) own started (by kernel_rfl) Tryd.func3
    (witness_row_at (enc := enc) (C := Tryd.checked) false (laidWorld os) #[] rfl (by kernel_rfl) (by kernel_rfl) (by kernel_rfl)
      (OpenSpec.preRow_of_cond 8 hx (by kernel_rfl) (fun k hk => by cases hk) (by kernel_rfl) (apiErrors_met os))) ?_
  intro W base args ds gs before hval hW _ hcond hZ hL _ _
  exact apiErrors_contract H enc W base args ds gs before hval hW hL

theorem apiErrors_said : Rows.ApiErrorsSaid :=
  OpenClaim.holds_of_cond 3 Tryd.f3 rfl rfl rfl rfl rfl rfl rfl ⟨rfl, rfl, rfl, rfl, rfl⟩ rfl rfl rfl rfl rfl (by kernel_rfl) Tryd.func3 (by kernel_rfl)
    (of_decide_eq_true (by kernel_rfl)) (by unfold Func.isWrapper; first | (rw [if_pos (by decide +kernel)]; kernel_rfl) | (rw [if_neg (by decide +kernel)]; exact ⟨rfl, rfl⟩))
    (fun os started H enc _ F => by rw [OpenClaim.pre_eq_preRow]; exact apiErrors_lifted os started H enc F)

/-- No parameter wants a stand-in; the program's own looks are off. -/
theorem apiErrors_plain (f : FuncId) (fn : Func) (hf : Tryd.pinned.checked.prog.funcNamed "massif/massiftop.ApiErrors" = some f) (hfn : Tryd.pinned.checked.prog.funcs[f]? = some fn) :
    false = Tryd.pinned.checked.prog.looks [] ∧ ∀ (j : Nat) t, fn.params[j]? = some t → Tryd.pinned.checked.prog.wantsStandIn t = false := by
  obtain rfl : f = 3 := Option.some.inj ((show Tryd.prog.funcNamed "massif/massiftop.ApiErrors" = some 3 by kernel_rfl).symm.trans hf) |>.symm
  obtain rfl : fn = Tryd.f3 := (Option.some.inj (Tryd.func3.symm.trans hfn)).symm
  refine ⟨by kernel_rfl, fun j t ht => ?_⟩
  rw [Tryd.params3] at ht
  simp at ht

theorem apiErrors_card : Rows.ApiErrorsCardSaid :=
  Claim7.holds_tied_plain_at .later [] _ _ _ _ apiErrors_said (fun _ h => by cases h) (by kernel_rfl) (fun _ h => by cases h) apiErrors_row_tie rfl ⟨rfl, rfl⟩ (by kernel_rfl) rfl apiErrors_plain (by kernel_rfl)


end Go.Proofs.YtebbmpomccjbnaaDoor.Laws
