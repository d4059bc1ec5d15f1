/- What the rows' lists give, and a world that holds them: the reference's two tables. No condition. -/
import Derived.Test.YtldiecblcnoleaaDoorPost
import Derived.Test.YtldiecblcnoleaaDoorRef01b
import Derived.Deep.DeepHandedRow
import Derived.Lib.LaidTab
import Derived.Stop.LaidErr
import Derived.SliceStrings
namespace Go.Proofs.YtldiecblcnoleaaDoor.Laws
open Go.RowKit Go.ChangeShapes Go.WideShapes Go.ChangeAt Go.Proofs.YtldiecblcnoleaaDoor.Mem Go.Proofs.YtldiecblcnoleaaDoor.Sha

theorem own : ownKnob Tryd.prog.godebug = none := by kernel_rfl
theorem laidOut : laidOutB Tryd.prog = true := by kernel_rfl
theorem gFirst : Tryd.prog.globalNamed "massif/massifref01.first" = some 0 := by kernel_rfl
theorem gRounds : Tryd.prog.globalNamed "massif/massifref01.rounds" = some 1 := by kernel_rfl
theorem tFirst : (Tryd.prog.globals[0]?).map (·.type) = some 81 := by kernel_rfl
theorem tRounds : (Tryd.prog.globals[1]?).map (·.type) = some 86 := by kernel_rfl
theorem cells8 : Tryd.prog.cellsOf 81 = 8 := by kernel_rfl
theorem cells64 : Tryd.prog.cellsOf 86 = 64 := by kernel_rfl
theorem cellsU32 : Tryd.prog.cellsOf 80 = 1 := by kernel_rfl
theorem cellsStr : Tryd.prog.cellsOf 9 = 1 := by kernel_rfl

def firstZ : List Int := [1779033703, 3144134277, 1013904242, 2773480762, 1359893119, 2600822924, 528734635, 1541459225]
def roundsZ : List Int := [1116352408, 1899447441, 3049323471, 3921009573, 961987163, 1508970993, 2453635748, 2870763221, 3624381080, 310598401, 607225278, 1426881987, 1925078388, 2162078206, 2614888103, 3248222580, 3835390401, 4022224774, 264347078, 604807628, 770255983, 1249150122, 1555081692, 1996064986, 2554220882, 2821834349, 2952996808, 3210313671, 3336571891, 3584528711, 113926993, 338241895, 666307205, 773529912, 1294757372, 1396182291, 1695183700, 1986661051, 2177026350, 2456956037, 2730485921, 2820302411, 3259730800, 3345764771, 3516065817, 3600352804, 4094571909, 275423344, 430227734, 506948616, 659060556, 883997877, 958139571, 1322822218, 1537002063, 1747873779, 1955562222, 2024104815, 2227730452, 2361852424, 2428436474, 2756734187, 3204031479, 3329325298]
def laids : List (String × DataW Unit) := [("massif/massifref01.first", Lib.tabData .u32 firstZ), ("massif/massifref01.rounds", Lib.tabData .u32 roundsZ)]

theorem firstZ_is : ∀ i, i < 8 → firstZ.getD i 0 = ((Sha.start.get i).toNat : Int) := by decide +kernel
theorem roundsZ_is : ∀ i, i < 64 → roundsZ.getD i 0 = ((roundKs.getD i 0).toNat : Int) := by decide +kernel

/-- What the list gives. -/
theorem tables {W : World} (h : laidMetH Tryd.prog laids W) : GL W := by
  have h0 : laidMet Tryd.prog laids W := h
  have t0 : Lib.TabIs Tryd.prog W "massif/massifref01.first" .u32 firstZ := Lib.tabIs_of_head gFirst tFirst Tryd.underlying81 Tryd.underlying80 cellsU32 cells8 h0
  have t1 : Lib.TabIs Tryd.prog W "massif/massifref01.rounds" .u32 roundsZ := Lib.tabIs_of_head gRounds tRounds Tryd.underlying86 Tryd.underlying80 cellsU32 cells64 h0.tail
  refine ⟨fun i hi => ?_, fun i hi => ?_, ?_⟩
  · rw [t0.cell gFirst i hi, firstZ_is i hi]
  · rw [t1.cell gRounds i hi, roundsZ_is i hi]
  · have h1 := t1
    unfold Lib.TabIs World.var? at h1
    rw [gRounds] at h1
    simp only [Option.bind_some] at h1
    cases hh : W.heap[1]? with
    | none => rw [hh] at h1; cases h1
    | some o => exact (Array.getElem?_eq_some_iff.1 hh).1

def laidIn (zs : List Int) : Obj → Obj
  | .cells _ t frozen => .cells (zs.map fun z => Value.int .u32 z).toArray t frozen
  | o => o

/-- A world for the witness. -/
noncomputable def laidWorld (os : Os) : World :=
  { World.holding Tryd.prog os ⟨#[], #[], []⟩ with heap := ((World.holding Tryd.prog os ⟨#[], #[], []⟩).heap.modify 0 (laidIn firstZ)).modify 1 (laidIn roundsZ) }

/-- What the bound gives. -/
theorem small {H : Type} {l : List (DataW H)} (hk : Rows.uptoSmall H l = true) : Rows.uptoBulkAll l ≤ 1048576 := of_decide_eq_true hk

end Go.Proofs.YtldiecblcnoleaaDoor.Laws
