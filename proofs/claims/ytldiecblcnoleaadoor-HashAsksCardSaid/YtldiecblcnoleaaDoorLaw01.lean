/- massiflaw01: contracts of fixed, texts. Conditions: the list can be read; sizes. -/
import Derived.Test.YtldiecblcnoleaaDoorRef01c
namespace Go.Proofs.YtldiecblcnoleaaDoor.Law01
open Go.RowKit Go.Proofs.YtldiecblcnoleaaDoor.Mem Go.Proofs.YtldiecblcnoleaaDoor.Sha
set_option linter.unusedVariables false
set_option linter.unusedSimpArgs false

def t1 (_ : Nat) : ByteArray := ⟨#[97, 98, 99]⟩
def t3 : Nat → ByteArray
  | 0 => ⟨#[97, 98, 99, 100, 98, 99, 100, 101, 99, 100, 101, 102, 100, 101, 102, 103, 101, 102, 103, 104, 102, 103, 104, 105, 103, 104, 105, 106, 104, 105, 106, 107, 105, 106, 107, 108]⟩
  | 1 => ⟨#[]⟩
  | _ => ⟨#[106, 107, 108, 109, 107, 108, 109, 110, 108, 109, 110, 111, 109, 110, 111, 112, 110, 111, 112, 113]⟩

theorem t3_size (i : Nat) : (t3 i).size ≤ 9223372036854775807 := by
  match i with
  | 0 => decide
  | 1 => decide
  | _ + 2 => exact show 20 ≤ 9223372036854775807 by decide

theorem sum1 : sha (cat t1 1) = [186, 120, 22, 191, 143, 1, 207, 234, 65, 65, 64, 222, 93, 174, 34, 35, 176, 3, 97, 163, 150, 23, 122, 156, 180, 16, 255, 97, 242, 0, 21, 173] := by decide +kernel
theorem sum0 : sha (cat t1 0) = [227, 176, 196, 66, 152, 252, 28, 20, 154, 251, 244, 200, 153, 111, 185, 36, 39, 174, 65, 228, 100, 155, 147, 76, 164, 149, 153, 27, 120, 82, 184, 85] := by decide +kernel
theorem sum3 : sha (cat t3 3) = [36, 141, 106, 97, 210, 6, 56, 184, 229, 192, 38, 147, 12, 62, 96, 57, 163, 60, 228, 89, 100, 255, 33, 103, 246, 236, 237, 212, 25, 219, 6, 193] := by decide +kernel

set_option maxRecDepth 100000 in
set_option maxHeartbeats 1000000 in
theorem fixed_calls (w : World) : Calls Tryd.prog 11 #[] w fun e w' => e = .returned (.bool true) ∧ Fr Nil w w' := by
  go_enter Tryd.func11, Tryd.ntmps11
  go_wp2_with fail
  have h1 : Has (w.alloc (.cells #[.string ⟨#[97, 98, 99]⟩] 9)) w.heap.size 1 9 (fun i => .string (t1 i)) := Has.new _ _ _ _ _ rfl (fun i hi => by obtain rfl : i = 0 := (by omega); rfl)
  refine (of_calls (some ⟨w.heap.size, 0, none⟩) 1 1 t1 _ (by omega) (fun _ _ => show 3 ≤ 9223372036854775807 by decide) ((h1.sl 0 1 (by omega)).congr fun i _ => by rw [Nat.zero_add])).mono ?_
  rintro e w1 ⟨rfl, hF1⟩
  rw [sum1]
  have hF1' := (Fr.alloc1 w _).then0 hF1
  clear hF1 h1
  go_wp2_with fail
  refine (of_calls none 0 0 t1 _ (by omega) (fun _ h => by omega) (.inl rfl)).mono ?_
  rintro e w2 ⟨rfl, hF2⟩
  rw [sum0]
  have hF2' := hF1'.then0 hF2
  clear hF1' hF2
  go_wp2_with fail
  have h3 : Has (w2.alloc (.cells #[.string (t3 0), .string (t3 1), .string (t3 2)] 9)) w2.heap.size 3 9 (fun i => .string (t3 i)) := Has.new _ _ _ _ _ rfl (fun i hi => by
    match i, hi with
    | 0, _ => rfl
    | 1, _ => rfl
    | 2, _ => rfl)
  refine (of_calls (some ⟨w2.heap.size, 0, none⟩) 3 3 t3 _ (by omega) (fun i _ => t3_size i) ((h3.sl 0 3 (by omega)).congr fun i _ => by rw [Nat.zero_add])).mono ?_
  rintro e w3 ⟨rfl, hF3⟩
  rw [sum3]
  simp only [strB]
  have hF3' := (hF2'.alloc _).then0 hF3
  clear hF2' hF3 h3
  go_wp2
  go_ret
  exact ⟨rfl, hF3'⟩

theorem info_str : (Tryd.prog.info? 9).map (fun i => (i.zero, i.size, i.bytes)) = some (some (.string ⟨#[]⟩), 1, 16) := by kernel_rfl

def m1 : ByteArray := ⟨#[109, 97, 114, 107, 32, 111, 110, 101]⟩
def m2 : ByteArray := ⟨#[109, 97, 114, 107, 32, 116, 119, 111]⟩
/-- A list, and the two marks behind it. -/
def marked (n : Nat) (f : Nat → Value) (i : Nat) : Value := if i < n then f i else if i = n then .string m1 else .string m2

set_option maxRecDepth 100000 in
set_option maxHeartbeats 1000000 in
theorem texts_calls (A : Option Addr) (n cap : Nat) (f : Nat → ByteArray) (w : World) (hn : n ≤ 1099511627776) (hA : SlAt w A n (fun i => .string (f i))) (hnil : A = none → n = 0 ∧ cap = 0) :
    Calls Tryd.prog 12 #[.slice A n cap] w fun e w' => ∃ v, e = .returned v ∧ Own w' w.heap.size v 9 1 (n + 2) (marked n (fun i => .string (f i))) ∧ Fr Nil w w' := by
  go_enter Tryd.func12, Tryd.ntmps12
  have hA1 : SlAt w A (n * 1) (fun i => .string (f i)) := by rw [Nat.mul_one]; exact hA
  go_wp2_with (first
    | (refine wpList_append_sl rfl _ _ 22 rfl w.heap.size 9 1 16 (.string ⟨#[]⟩) Tryd.underlying22 info_str rfl (by omega) (.slice none 0 0) 0 (fun _ => .int .i64 0) rfl (Own.nil _ _ _ _ _) A n cap (fun i => .string (f i)) rfl hA1 hnil (fun _ _ => rfl) (by omega) (by omega) (Nat.le_refl _) ?_; intro v1 w1 hO1 hF1; have hF1' : Fr Nil w w1 := hF1.mono (fun _ _ h => by cases h); have hw1 := hF1'.size)
    | (at_builtin; go_must (refine wpList_append rfl _ _ 22 rfl w.heap.size 9 1 16 (.string ⟨#[]⟩) Tryd.underlying22 info_str rfl (by omega) v1 (0 + n) _ rfl (hO1.fr0 (Fr.alloc1 _ _)) w1.heap.size 0 2 2 (fun j => if j = 0 then .string m1 else .string m2) rfl (new_two _ _ _ _) (fun j _ => by split <;> rfl) (by omega) (by omega) (by simp; omega) ?_); intro v2 w2 hO2 hF2 _))
  go_ret
  refine ⟨v2, rfl, ?_, (hF1'.alloc _).thenOwn (hO1.fr0 (Fr.alloc1 _ _)) (Nat.le_refl _) hF2⟩
  rw [Nat.zero_add] at hO2
  refine hO2.congr fun j hj => ?_
  unfold joinF marked
  rw [Nat.mul_one]
  by_cases h1 : j < n
  · simp [h1]
  · by_cases h2 : j = n
    · simp [h2]
    · have h3 : ¬ (j - n = 0) := by omega
      simp [h1, h2, h3]

theorem cat_one (s : ByteArray) : cat (fun _ => s) 1 = s.data.toList := rfl

theorem marked_lt {n i : Nat} (f : Nat → Value) (h : i < n) : marked n f i = f i := by unfold marked; rw [if_pos h]
theorem marked_n (n : Nat) (f : Nat → Value) : marked n f n = .string m1 := by unfold marked; rw [if_neg (Nat.lt_irrefl _), if_pos rfl]
theorem marked_n1 (n : Nat) (f : Nat → Value) : marked n f (n + 1) = .string m2 := by unfold marked; rw [if_neg (by omega), if_neg (by omega)]

theorem cat_front (f : Nat → ByteArray) : ∀ n, (cat f (n + 1)).length = (f 0).size + (cat (fun i => f (i + 1)) n).length
  | 0 => by simp [cat, ← Lib.size_eq]
  | n + 1 => by
    have h := cat_front f n
    have e : cat f (n + 2) = cat f (n + 1) ++ (f (n + 1)).data.toList := rfl
    rw [e, List.length_append, h]
    simp only [cat, List.length_append]
    omega

theorem cat_congr {f g : Nat → ByteArray} : ∀ n, (∀ i, i < n → f i = g i) → cat f n = cat g n
  | 0, _ => rfl
  | n + 1, h => by
    show cat f n ++ _ = cat g n ++ _
    rw [cat_congr n (fun i hi => h i (by omega)), h n (by omega)]

theorem cat_turned : ∀ (n : Nat) (f : Nat → ByteArray), (cat (fun i => f (n - 1 - i)) n).length = (cat f n).length
  | 0, _ => rfl
  | n + 1, f => by
    rw [cat_front]
    have e : cat (fun i => f (n + 1 - 1 - (i + 1))) n = cat (fun i => f (n - 1 - i)) n := cat_congr n fun i hi => by
      show f _ = f _
      congr 1
      omega
    rw [e, cat_turned n f]
    show _ = (cat f n ++ (f n).data.toList).length
    rw [List.length_append, ← Lib.size_eq, Nat.add_sub_cancel, Nat.sub_zero]
    omega

def turned (n i : Nat) (f : Nat → ByteArray) (f' : Nat → Value) (j : Nat) : Value := if j < i then .string (f (n - 1 - j)) else f' j

set_option maxRecDepth 100000 in
set_option maxHeartbeats 1000000 in
theorem shaOf_calls (A : Option Addr) (n cap : Nat) (f : Nat → ByteArray) (w : World) (hn : n ≤ 1099511627776) (hsz : (cat f n).length ≤ 1099511627776)
    (hA : SlAt w A n (fun i => .string (f i))) (hnil : A = none → n = 0 ∧ cap = 0) (hG : GL w) :
    Calls Tryd.prog 3 #[.slice A n cap] w fun e w' => e = .returned (.bool true) ∧ Fr Nil w w' := by
  have hsz2 : (cat (fun i => f (n - 1 - i)) n).length ≤ 1099511627776 := by rw [cat_turned]; exact hsz
  have hfs : ∀ i, i < n → (f i).size ≤ 9223372036854775807 := fun i hi => by
    have h := cat_mono f n (i + 1) hi
    simp only [cat, List.length_append, ← Lib.size_eq] at h
    omega
  go_enter Tryd.func3, Tryd.ntmps3
  go_wp2_with (first
    | (go_at_call 11; refine (fixed_calls w).mono ?_; rintro e w1 ⟨rfl, hF1⟩)
    | (go_at_call 12; refine (texts_calls A n cap f w1 hn (hA.fr hF1) hnil).mono ?_; rintro e w2 ⟨v, rfl, hO, hF2⟩))
  have hF := hF1.then0 hF2
  have hB := hF1.size
  rcases hO.open with ⟨_, h0⟩ | ⟨g, cap2, N, f', rfl, hg, hkc, hcm, hN, hH, hf'⟩
  · omega
  clear hO
  have hcm2 : cap2 ≤ 9223372036854775807 := hcm
  rw [Nat.mul_one] at hN hf'
  have hfl : ∀ i, i < n → f' i = .string (f i) := fun i hi => by rw [hf' i (by omega), marked_lt _ hi]
  have hfn : f' n = .string m1 := by rw [hf' n (by omega), marked_n]
  have hfn1 : f' (n + 1) = .string m2 := by rw [hf' (n + 1) (by omega), marked_n1]
  have hgw : w.heap.size ≤ g := by omega
  have hNle : n + 2 ≤ N := by omega
  have HN := Lib.hid hN
  clear hN hf' hg hB hF1 hF2
  have hG2 := hG.fr0 hF
  go_loop [5, 6] (fun v5 v6 => ∃ (i : Nat) (t : ByteArray), i ≤ n ∧ v6 = .int .i64 i ∧ v5 = .string t ∧ Hid (t.data.toList = cat f i)) (fun _ v => n - (intOf v).toNat)
  case atStart => exact ⟨0, _, Nat.zero_le _, rfl, rfl, rfl⟩
  case round =>
    obtain ⟨i, t, hi, rfl, rfl, HT⟩ := hrel
    by_cases hlt : i < n
    · obtain ⟨b, o, rfl, hb, hc⟩ := (hA.fr hF).at (by omega)
      have hci := hc i hlt
      clear hc
      have hm := cat_mono f n (i + 1) hlt
      have hsum : t.size + (f i).size ≤ 9223372036854775807 := by
        rw [Lib.size_eq t, HT.out, Lib.size_eq (f i)]
        simp only [cat, List.length_append] at hm
        omega
      clear hm
      go_wp2
      refine ⟨⟨i + 1, _, by omega, by go_num, rfl, ?_⟩, by simp [intOf]; omega⟩
      show (t ++ f i).data.toList = cat f i ++ (f i).data.toList
      rw [ByteArray.data_append, Array.toList_append, HT.out]
    · have hin : i = n := by omega
      subst hin
      have hS1 : SlAt w2 (some ⟨g, 0, none⟩) i (fun j => .string (f j)) := (hH.sl 0 i (by omega)).congr fun j hj => by rw [Nat.zero_add, hfl j hj]
      have HS := Lib.hid hS1
      have HT2 : Hid (cat (fun _ => t) 1 = cat f i) := HT
      clear hS1
      go_wp2_with (first
        | (go_at_call 13; refine (of_calls _ i _ f w2 (by omega) hfs HS.out).mono ?_; rintro e w3 ⟨rfl, hF3⟩)
        | (go_at_call 14; have h4 : Has (w3.alloc (.cells #[.string t] 9)) w3.heap.size 1 9 (fun _ => .string t) := Has.new _ _ _ _ _ rfl (fun i hi => by obtain rfl : i = 0 := (by omega); rfl); refine (refof_calls (some ⟨w3.heap.size, 0, none⟩) 1 1 (fun _ => t) _ (by omega) (by rw [HT2.out]; exact Nat.le_trans hsz (by decide)) (h4.sl 0 1 (by omega)) ((hG2.fr0 hF3).fr0 (Fr.alloc1 _ _))).mono ?_; rintro e w5 ⟨rfl, hF5⟩; rw [HT2.out]; have hF25 := hF3.then0 ((Fr.alloc1 w3 (.cells #[.string t] 9)).then0 hF5); have hH5 := hF25.has hH (fun h => h); have hFw := hF.then0 hF25; have c1 := hH5.cell i (by omega); have c2 := hH5.cell (i + 1) (by omega); rw [hfn] at c1; rw [hfn1] at c2; unfold m1 at c1; unfold m2 at c2))
      clear c1 c2 h4 hF3 hF5 hH HS HT2 HT hF25 hF hG2
      go_loopw [7] (fun v7 wr => ∃ j : Nat, j ≤ i ∧ v7 = .int .i64 j ∧ Has wr g N 9 f' ∧ Fr Nil w wr) (fun v _ => i - (intOf v).toNat)
      case atStart => exact ⟨0, Nat.zero_le _, rfl, hH5, hFw⟩
      case round =>
        clear hH5 hFw
        obtain ⟨j, hj, rfl, hH, hF⟩ := hrel
        by_cases hlj : j < i
        · obtain ⟨b, o, rfl, hb, hc⟩ := (hA.fr hF).at (by omega)
          have hcj := hc j hlj
          have hcg := hH.cell j (by omega)
          rw [hfl j hlj] at hcg
          clear hc
          go_wp2
          refine QTail.quiet (fun w' => ∃ n, w' = wr.drewN n) (by kernel_rfl) (by kernel_rfl) ⟨1, rfl⟩ ?_
          repeat (first | go_big_quiet_step (fail) | quiet_step (fail))
          refine wpQuiet_nil ?_
          rintro _ ⟨x, rfl⟩
          have hH2 := hH.drewN x
          have hF2 := hF.drewN x
          clear hH hF hcj hcg
          generalize wr.drewN x = wx at *
          go_wp2
          exact ⟨⟨j + 1, by omega, by go_num, hH2, hF2⟩, by simp [intOf]; omega⟩
        · have hji : j = i := by omega
          subst hji
          go_wp2
          have hT0 := hH.congr (g := turned j 0 f f') fun k _ => rfl
          go_loopw [8, 9] (fun v8 v9 wr => ∃ (k : Nat) (u : ByteArray), k ≤ j ∧ v9 = .int .i64 k ∧ v8 = .string u ∧ Hid (u.data.toList = cat (fun i => f (j - 1 - i)) k) ∧ Has wr g N 9 (turned j k f f') ∧ Fr Nil w wr) (fun _ v _ => j - (intOf v).toNat)
          case atStart => exact ⟨0, _, Nat.zero_le _, rfl, rfl, rfl, hT0, hF⟩
          case round =>
            clear hT0 hH hF
            obtain ⟨k, u, hk, rfl, rfl, HU, hH, hF⟩ := hrel
            by_cases hlk : k < j
            · obtain ⟨b, o, rfl, hb, hc⟩ := (hA.fr hF).at (by omega)
              have hck := hc (j - 1 - k) (by omega)
              have hwr : IntKind.i64.wrap ((j : Int) - 1 - k) = ((j - 1 - k : Nat) : Int) := by
                rw [IntWalk.i64_in _ (by omega)]
                omega
              have hjk : j - 1 - k < j := by omega
              have hcg := hH.cell k (by omega)
              have hfr := hH.free k
              have hm := cat_mono (fun i => f (j - 1 - i)) j (k + 1) hlk
              have hsum : u.size + (f (j - 1 - k)).size ≤ 9223372036854775807 := by
                rw [Lib.size_eq u, HU.out, Lib.size_eq (f (j - 1 - k))]
                simp only [cat, List.length_append] at hm
                omega
              clear hc hm
              go_wp2
              refine ⟨⟨k + 1, _, by omega, by go_num, rfl, ?_, (hH.put k _).congr fun q hq => ?_, hF.setCell _ _ (.inl hgw)⟩, by simp [intOf]; omega⟩
              · show (u ++ f (j - 1 - k)).data.toList = cat (fun i => f (j - 1 - i)) k ++ (f (j - 1 - k)).data.toList
                rw [ByteArray.data_append, Array.toList_append, HU.out]
              · unfold turned
                by_cases e1 : q = k
                · rw [if_pos e1, if_pos (by omega), e1]
                · rw [if_neg e1]
                  by_cases e2 : q < k
                  · rw [if_pos e2, if_pos (by omega)]
                  · rw [if_neg e2, if_neg (by omega)]
            · have hkj : k = j := by omega
              subst hkj
              have hS1 : SlAt wr (some ⟨g, 0, none⟩) k (fun j => .string (f (k - 1 - j))) := (hH.sl 0 k (by omega)).congr fun j hj => by
                rw [Nat.zero_add]
                unfold turned
                rw [if_pos hj]
              have HS := Lib.hid hS1
              have HU2 : Hid (cat (fun _ => u) 1 = cat (fun i => f (k - 1 - i)) k) := HU
              clear hS1
              go_wp2_with (first
                | (go_at_call 13; refine (of_calls _ k _ (fun i => f (k - 1 - i)) wr (by omega) (fun i hi => hfs _ (by omega)) HS.out).mono ?_; rintro e w6 ⟨rfl, hF6⟩)
                | (go_at_call 14; have h4 : Has (w6.alloc (.cells #[.string u] 9)) w6.heap.size 1 9 (fun _ => .string u) := Has.new _ _ _ _ _ rfl (fun i hi => by obtain rfl : i = 0 := (by omega); rfl); refine (refof_calls (some ⟨w6.heap.size, 0, none⟩) 1 1 (fun _ => u) _ (by omega) (by rw [HU2.out]; exact Nat.le_trans hsz2 (by decide)) (h4.sl 0 1 (by omega)) (((hG.fr0 hF).fr0 hF6).fr0 (Fr.alloc1 _ _))).mono ?_; rintro e w7 ⟨rfl, hF7⟩; rw [HU2.out]))
              go_ret
              exact ⟨rfl, ((hF.then0 hF6).then0 (Fr.alloc1 _ _)).then0 hF7⟩

end Go.Proofs.YtldiecblcnoleaaDoor.Law01
