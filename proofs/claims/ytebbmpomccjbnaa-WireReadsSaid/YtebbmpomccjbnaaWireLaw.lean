/- massiflaw06.fixed: it returns true. No condition. -/
import Derived.Test.YtebbmpomccjbnaaWire06d
namespace Go.Proofs.Ytebbmpomccjbnaa.Wire
open Go.RowKit Go.Proofs.Ytebbmpomccjbnaa.Mem
set_option linter.unusedVariables false
set_option linter.unusedSimpArgs false

def five : ByteArray := ⟨#[5, 97, 98]⟩
def two : ByteArray := ⟨#[97, 98]⟩
def one : ByteArray := ⟨#[98]⟩
def none_ : ByteArray := ⟨#[]⟩

theorem enc300 : strB (enc 10 300) = ⟨#[172, 2]⟩ := by kernel_rfl
theorem enc0 : strB (enc 10 0) = ⟨#[0]⟩ := by kernel_rfl
theorem n5 : numV ⟨#[5, 97, 98]⟩ 0 = 5 ∧ numE ⟨#[5, 97, 98]⟩ 0 = 0 ∧ numS ⟨#[5, 97, 98]⟩ 0 = ⟨#[97, 98]⟩ := by decide +kernel
theorem t1 : takeV ⟨#[97, 98]⟩ 0 1 = ⟨#[97]⟩ ∧ takeE ⟨#[97, 98]⟩ 0 1 = 0 ∧ takeS ⟨#[97, 98]⟩ 0 1 = ⟨#[98]⟩ := by decide +kernel
theorem t2 : takeV ⟨#[98]⟩ 0 2 = ⟨#[]⟩ ∧ takeE ⟨#[98]⟩ 0 2 = 60 ∧ takeS ⟨#[98]⟩ 0 2 = ⟨#[]⟩ := by decide +kernel
theorem t0 : takeV ⟨#[]⟩ 60 0 = ⟨#[]⟩ ∧ takeE ⟨#[]⟩ 60 0 = 60 ∧ takeS ⟨#[]⟩ 60 0 = ⟨#[]⟩ := by decide +kernel

set_option maxRecDepth 100000 in
theorem fixed_calls (w : World) : Calls Try.prog 7 #[] w fun e w' => e = .returned (.bool true) ∧ Fr Nil w w' := by
  go_enter Try.func7, Try.ntmps7
  go_wp2_with fail
  refine (newReader_calls _ _).mono ?_
  rintro e w1 ⟨rfl, hR, hF⟩
  obtain ⟨g, hg⟩ : ∃ g, g = w.heap.size := ⟨_, rfl⟩
  rw [← hg] at hR ⊢
  have hgw : w.heap.size ≤ g := by omega
  clear hg
  go_wp2_with fail
  refine (number_calls 300 _ (by decide)).mono ?_
  rintro e w2 ⟨rfl, hx⟩
  rw [enc300]
  replace hF := hF.then0 hx
  replace hR : Rd w2 g _ _ := hx.has hR (fun h => h)
  clear hx
  go_wp2_with fail
  refine (number_calls 0 _ (by decide)).mono ?_
  rintro e w3 ⟨rfl, hx⟩
  rw [enc0]
  replace hF := hF.then0 hx
  replace hR : Rd w3 g _ _ := hx.has hR (fun h => h)
  clear hx
  go_wp2_with fail
  refine (readNumber_calls g _ _ _ hR (by decide)).mono ?_
  rintro e w4 ⟨rfl, hR4, hx⟩
  rw [n5.1, n5.2.1]
  rw [n5.2.1, n5.2.2] at hR4
  replace hF := hF.then1 hx (.inl hgw)
  clear hx hR
  go_wp2_with fail
  refine (left_calls g _ _ _ hR4).mono ?_
  rintro e w5 ⟨rfl, hx⟩
  replace hF := hF.then0 hx
  have hR5 : Rd w5 g _ _ := hx.has hR4 (fun h => h)
  clear hx hR4
  go_wp2_with fail
  refine (take_calls g _ _ 1 _ hR5 (by decide)).mono ?_
  rintro e w6 ⟨rfl, hR6, hx⟩
  rw [t1.1, t1.2.1]
  rw [t1.2.1, t1.2.2] at hR6
  replace hF := hF.then1 hx (.inl hgw)
  clear hx hR5
  go_wp2_with fail
  refine (take_calls g _ _ 2 _ hR6 (by decide)).mono ?_
  rintro e w7 ⟨rfl, hR7, hx⟩
  rw [t2.1, t2.2.1]
  rw [t2.2.1, t2.2.2] at hR7
  replace hF := hF.then1 hx (.inl hgw)
  clear hx hR6
  go_wp2_with fail
  refine (take_calls g _ _ 0 _ hR7 (by decide)).mono ?_
  rintro e w8 ⟨rfl, hR8, hx⟩
  rw [t0.1, t0.2.1]
  rw [t0.2.1, t0.2.2] at hR8
  replace hF := hF.then1 hx (.inl hgw)
  clear hx hR7
  go_wp2_with fail
  refine (left_calls g _ _ _ hR8).mono ?_
  rintro e w9 ⟨rfl, hx⟩
  replace hF := hF.then0 hx
  go_wp2
  go_ret
  exact ⟨rfl, hF⟩

end Go.Proofs.Ytebbmpomccjbnaa.Wire
