/- ShaOf: for every list of parts, within the bound, the law returns true, and the list reads as it read. Condition: the bulk is at most 1048576. -/
import Derived.Test.YtldiecblcnoleaaDoorLaws
import Derived.Test.YtldiecblcnoleaaDoorLaw01
import Derived.Test.YtldiecblcnoleaaDoorCards
import Derived.Test.YtldiecblcnoleaaDoorTie
namespace Go.Proofs.YtldiecblcnoleaaDoor.Laws
open Go.RowKit Go.ChangeShapes Go.WideShapes Go.ChangeAt Go.Proofs.YtldiecblcnoleaaDoor.Mem Go.Proofs.YtldiecblcnoleaaDoor.Sha Go.Proofs.YtldiecblcnoleaaDoor.Law01
set_option linter.unusedVariables false

def strI (ss : List ByteArray) (i : Nat) : ByteArray := ss.getD i ByteArray.empty

theorem cat_bulk {H : Type} : ∀ (n : Nat) (ss : List ByteArray), n ≤ ss.length → (cat (strI ss) n).length + n ≤ Rows.uptoBulkAll (strs (H := H) (ss.take n))
  | 0, _, _ => by simp [cat]
  | n + 1, ss, h => by
    have ih := cat_bulk (H := H) n ss (by omega)
    have e : ss.take (n + 1) = ss.take n ++ [strI ss n] := by
      rw [List.take_add_one, List.getElem?_eq_getElem (by omega)]
      simp [strI, List.getD, List.getElem?_eq_getElem (show n < ss.length by omega)]
    have e2 : ∀ (a b : List (DataW H)), Rows.uptoBulkAll (a ++ b) = Rows.uptoBulkAll a + Rows.uptoBulkAll b := by
      intro a b
      induction a with
      | nil => simp [Rows.uptoBulkAll]
      | cons x r ih => simp only [List.cons_append, Rows.uptoBulkAll, ih]; omega
    rw [e]
    unfold strs at ih ⊢
    rw [List.map_append, e2]
    simp only [cat, List.length_append, List.map_cons, List.map_nil, Rows.uptoBulkAll, Rows.uptoBulk]
    omega

set_option maxRecDepth 100000 in
/-- A list of strings, opened: what the laws' walks ask of it. -/
theorem open_list {H : Type} {enc : TypeId × Value → H} {W : World} {v : Value} {d : DataW H} {p : List MemPlace} {base : Nat} (hok : Value.okWide Tryd.prog W .any base 22 v)
    (h : DataW.Trod enc Tryd.prog W 0 (fun _ => true) true 22 v d p) (hb : Rows.uptoBulk d ≤ 1048576) :
    ∃ A n cap f, v = .slice A n cap ∧ n ≤ 1048576 ∧ (cat f n).length ≤ 1048576 ∧ SlAt W A n (fun i => .string (f i)) ∧ (A = none → n = 0 ∧ cap = 0) := by
  obtain ⟨a0, len, cap, rfl⟩ := okWide_slice Tryd.underlying22 hok
  obtain ⟨fuel, hf⟩ := h
  rcases open_strings Tryd.underlying22 Tryd.underlying9 cellsStr hf with ⟨hcs, hx⟩ | ⟨a, len', cap', ss, hcs, _, hl, hm, hz, hx, hcell, hsz⟩
  · change [Value.slice a0 len cap] = _ at hcs
    simp only [List.cons.injEq, Value.slice.injEq, and_true] at hcs
    obtain ⟨rfl, rfl, rfl⟩ := hcs
    exact ⟨none, 0, 0, fun _ => ByteArray.empty, rfl, Nat.zero_le _, Nat.zero_le _, .inl rfl, fun _ => ⟨rfl, rfl⟩⟩
  · change [Value.slice a0 len cap] = _ at hcs
    simp only [List.cons.injEq, Value.slice.injEq, and_true] at hcs
    obtain ⟨rfl, rfl, rfl⟩ := hcs
    rw [if_pos rfl] at hz
    have hd : d = .slice (strs (ss.take len)) (strs (ss.drop len)) := congrArg Prod.fst hx
    rw [hd] at hb
    simp only [Rows.uptoBulk] at hb
    have hc := cat_bulk (H := H) len ss (by omega)
    generalize Rows.uptoBulkAll (strs (H := H) (ss.take len)) = x at hb hc
    refine ⟨some a, len, cap, strI ss, rfl, by omega, by omega, ?_, fun h => by cases h⟩
    rcases Nat.eq_zero_or_pos len with h0 | h0
    · exact .inl h0
    · obtain ⟨b, off, spot⟩ := a
      have hspot : spot = none := by simpa [Addr.add] using World.cell?_spot (hcell 0 (by omega))
      subst hspot
      refine .inr ⟨b, off, rfl, cell_lt (hcell 0 (by omega)), fun i hi => ?_⟩
      rw [← add_plain]
      exact hcell i (by omega)

set_option maxRecDepth 100000 in
/-- The contract, within the bound. -/
theorem shaOf_contract (H : Type) (enc : TypeId × Value → H) (W : World) (base : Nat) (args : Array Value) (ds gs : List (DataW H)) (before : List MemPlace)
    (hval : ∀ (j : Nat) t v, Tryd.f3.params[j]? = some t → args[j]? = some v → Value.okWide Tryd.prog W .any base t v)
    (hW : DataW.Whole enc Tryd.prog Tryd.f3.params.toList Rows.shaOfSpec.vars false W args.toList ds gs before) (hk : Rows.uptoSmall H (ds ++ gs) = true) (hL : laidMetH Tryd.prog laids W) :
    Calls Tryd.prog 3 args W fun e W' => ∃ v, e = .returned v ∧ Rows.shaOfSpec.post enc Tryd.prog Tryd.f3 false true false false W args v W' := by
  have hW' := hW
  obtain ⟨p, q, hA, hV, _, _, _⟩ := hW
  rw [Tryd.params3] at hA hval
  obtain ⟨v0, vs0, d0, ds0, p0, q0, hargs, rfl, rfl, h0, r0⟩ := trodAll_cons hA
  obtain ⟨rfl, rfl, rfl⟩ := trodAll_nil r0
  obtain rfl : args = #[v0] := by cases args; simp_all
  obtain ⟨rfl, rfl⟩ := trodVars_none hV
  have hb := small hk
  rw [List.cons_append] at hb
  simp only [Rows.uptoBulkAll] at hb
  obtain ⟨A, n, cap, f, rfl, hn, hc, hS, hnil⟩ := open_list (hval 0 _ v0 rfl rfl) h0 (by omega)
  refine (shaOf_calls A n cap f W (by omega) (by omega) hS hnil (tables hL)).mono fun e W' ⟨he, hF⟩ => ?_
  subst he
  exact ⟨_, rfl, post_law laidOut (by kernel_rfl) (by kernel_rfl) Tryd.underlying4 hW' rfl rfl rfl rfl hF⟩

theorem shaOf_met (os : Os) : laidMet Tryd.prog laids ((laidWorld os).forCall (fun _ _ => 0) ⟨#[], #[.slice none 0 0], []⟩).memory := laidMet_of_run' 8 (by kernel_rfl) (by kernel_rfl)
theorem shaOf_reads (os : Os) {H : Type} (enc : TypeId × Value → H) : ∃ places, DataW.whole enc Tryd.prog ((laidWorld os).forCall (fun _ _ => 0) ⟨#[], #[.slice none 0 0], []⟩).memory Tryd.f3.params.toList Rows.shaOfSpec.vars false #[Value.slice none 0 0].toList 8 = some ([.nil], [], places) :=
  ⟨[], by kernel_rfl⟩

set_option maxRecDepth 100000 in
theorem shaOf_lifted (os : Os) (started : os.Started) (H : Type) (enc : TypeId × Value → H) (F : Stop.Interp) :
    ReturnsInHanded {} Tryd.checked os 3 .any ((Rows.OpenSpec.upto Rows.shaOfSpec).preRow enc Tryd.prog Tryd.f3 Rows.shaOfUptoRow.domain false Rows.shaOfUptoRow.laid) (((Rows.OpenSpec.upto Rows.shaOfSpec).at F).post enc Tryd.prog Tryd.f3 false true false false) := by
  obtain ⟨places, hx⟩ := shaOf_reads os enc
  refine returnsInHanded_of_row (C := Tryd.checked) (s := Rows.OpenSpec.upto Rows.shaOfSpec) own started (by kernel_rfl) Tryd.func3
    (witness_row_at (enc := enc) (C := Tryd.checked) false (laidWorld os) #[.slice none 0 0] rfl (by kernel_rfl) (by kernel_rfl) (by kernel_rfl)
      (OpenSpec.preRow_of_cond 8 hx (by kernel_rfl) (fun k hk => by cases hk; kernel_rfl) (by kernel_rfl) (shaOf_met os))) ?_
  intro W base args ds gs before hval hW _ hcond _ hL _ _
  exact shaOf_contract H enc W base args ds gs before hval hW (hcond _ rfl) hL

theorem shaOf_said : Rows.ShaOfUptoSaid :=
  OpenClaim.holds_of_cond 3 Tryd.f3 rfl rfl rfl rfl rfl rfl rfl ⟨rfl, rfl, rfl, rfl, rfl⟩ rfl rfl rfl rfl rfl (by kernel_rfl) Tryd.func3 (by kernel_rfl)
    (of_decide_eq_true (by kernel_rfl)) (by unfold Func.isWrapper; first | (rw [if_pos (by decide +kernel)]; kernel_rfl) | (rw [if_neg (by decide +kernel)]; exact ⟨rfl, rfl⟩))
    (fun os started H enc _ F => by rw [OpenClaim.pre_eq_preRow]; exact shaOf_lifted os started H enc F)

/-- No parameter wants a stand-in; the program's own looks are off. -/
theorem shaOf_plain (f : FuncId) (fn : Func) (hf : Tryd.pinned.checked.prog.funcNamed "massif/massiflaw01.ShaOf" = some f) (hfn : Tryd.pinned.checked.prog.funcs[f]? = some fn) :
    false = Tryd.pinned.checked.prog.looks [] ∧ ∀ (j : Nat) t, fn.params[j]? = some t → Tryd.pinned.checked.prog.wantsStandIn t = false := by
  obtain rfl : f = 3 := Option.some.inj ((show Tryd.prog.funcNamed "massif/massiflaw01.ShaOf" = some 3 by kernel_rfl).symm.trans hf) |>.symm
  obtain rfl : fn = Tryd.f3 := (Option.some.inj (Tryd.func3.symm.trans hfn)).symm
  refine ⟨by kernel_rfl, fun j t ht => ?_⟩
  rw [Tryd.params3] at ht
  obtain rfl : t = 22 := by simpa using Array.mem_of_getElem? ht
  exact (show Tryd.prog.wantsStandIn 22 = false by kernel_rfl)

theorem shaOf_card : Rows.ShaOfUptoCardSaid :=
  Claim7.holds_tied_plain_at .later [] _ _ _ _ shaOf_said (fun _ h => by cases h) (by kernel_rfl) (fun _ h => by cases h) shaOfUpto_row_tie rfl ⟨rfl, rfl⟩ (by kernel_rfl) rfl shaOf_plain (by kernel_rfl)

end Go.Proofs.YtldiecblcnoleaaDoor.Laws
