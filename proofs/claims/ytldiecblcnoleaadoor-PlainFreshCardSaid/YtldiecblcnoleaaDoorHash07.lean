/- hash.* and the reference's layer 7: the same texts, the same digests. Conditions: the lists can be read; the texts' sizes; for the reference its tables. -/
import Derived.Test.YtldiecblcnoleaaDoorRef01c
namespace Go.Proofs.YtldiecblcnoleaaDoor.Hash
open Go.RowKit Go.Proofs.YtldiecblcnoleaaDoor.Mem Go.Proofs.YtldiecblcnoleaaDoor.Sha
set_option linter.unusedVariables false
set_option linter.unusedSimpArgs false

theorem conv_one (x : UInt8) (w : World) : (convert 30 9 (.slice (some ⟨w.heap.size, 0, none⟩) 1 1)).run Tryd.prog (w.alloc (.cells #[.int .u8 (x.toNat : Int)] 5)) = .ok (.string ⟨#[x]⟩) (w.alloc (.cells #[.int .u8 (x.toNat : Int)] 5)) := by
  have h : Has (w.alloc (.cells #[.int .u8 (x.toNat : Int)] 5)) w.heap.size 1 5 (fun _ => .int .u8 (x.toNat : Int)) := Has.new _ _ _ _ _ rfl (fun i hi => by obtain rfl : i = 0 := (by omega); rfl)
  exact conv_bytes (P := Tryd.prog) Tryd.underlying30 Tryd.underlying5 Tryd.underlying9 h 0 1 1 [x] rfl (Nat.le_refl _) (fun j hj => by
    obtain rfl : j = 0 := (by simp at hj; omega)
    rfl)

theorem first_calls (x : UInt8) (w : World) : Calls Tryd.prog 66 #[.int .u8 (x.toNat : Int)] w fun e w' => e = .returned (.string ⟨#[x]⟩) ∧ Fr Nil w w' := by
  have hc := conv_one x
  go_enter Tryd.func66, Tryd.ntmps66
  go_wp2
  go_ret
  exact ⟨rfl, Fr.alloc1 _ _⟩

/-- The texts of layer 7. -/
def leafT (s : ByteArray) : ByteArray := ⟨#[0]⟩ ++ s
def nodeT (a b : ByteArray) : ByteArray := ⟨#[1]⟩ ++ a ++ b
def bagT (a b : ByteArray) : ByteArray := ⟨#[2]⟩ ++ a ++ b
def rootT (n : Nat) (d : ByteArray) : ByteArray := ⟨#[3]⟩ ++ strB (big n 8) ++ d

theorem size_app (a b : ByteArray) : (a ++ b).size = a.size + b.size := ByteArray.size_append
theorem leafT_size (s : ByteArray) : (leafT s).size = 1 + s.size := by unfold leafT; rw [size_app]; rfl
theorem nodeT_size (a b : ByteArray) : (nodeT a b).size = 1 + a.size + b.size := by unfold nodeT; rw [size_app, size_app]; rfl
theorem bagT_size (a b : ByteArray) : (bagT a b).size = 1 + a.size + b.size := by unfold bagT; rw [size_app, size_app]; rfl
theorem strB_size (l : List UInt8) : (strB l).size = l.length := by rw [Lib.size_eq]; rfl
theorem rootT_size (n : Nat) (d : ByteArray) : (rootT n d).size = 9 + d.size := by unfold rootT; rw [size_app, size_app, strB_size, big_length]; show 1 + 8 + _ = _; omega

/-- The strength, as it counts. -/
def clamp (k : Int) : Nat := (min (max k 1) 32).toNat
theorem clamp_is (k : Int) : min (max k 1) 32 = (clamp k : Int) := by unfold clamp; omega
theorem clamp_le (k : Int) : 1 ≤ clamp k ∧ clamp k ≤ 32 := by unfold clamp; omega

/-- A text's digest. -/
def dig (k : Int) (s : ByteArray) : ByteArray := (strB (sha s.data.toList)).extract 0 (clamp k)
theorem dig_size (k : Int) (s : ByteArray) : (dig k s).size = clamp k := by
  unfold dig
  rw [ByteArray.size_extract, strB_size, sha_length]
  have := clamp_le k
  omega

theorem leaf_text (s : ByteArray) (w : World) (hs : s.size ≤ 1152921504606846976) : Calls Tryd.prog 23 #[.string s] w fun e w' => e = .returned (.string (leafT s)) ∧ Fr Nil w w' := by
  have hsum : ¬ 9223372036854775807 < (⟨#[0]⟩ : ByteArray).size + s.size := by show ¬ _ < 1 + s.size; omega
  go_enter Tryd.func23, Tryd.ntmps23
  go_wp2_with (go_at_call 66; refine (first_calls 0 _).mono ?_; rintro e w2 ⟨rfl, hF2⟩)
  go_ret
  exact ⟨rfl, hF2⟩

theorem node_text (a b : ByteArray) (w : World) (ha : a.size ≤ 1152921504606846976) (hb : b.size ≤ 1152921504606846976) : Calls Tryd.prog 25 #[.string a, .string b] w fun e w' => e = .returned (.string (nodeT a b)) ∧ Fr Nil w w' := by
  have hsum : ¬ 9223372036854775807 < (⟨#[1]⟩ : ByteArray).size + a.size := by show ¬ _ < 1 + a.size; omega
  have hsum2 : ¬ 9223372036854775807 < (⟨#[1]⟩ : ByteArray).size + a.size + b.size := by show ¬ _ < 1 + a.size + b.size; omega
  go_enter Tryd.func25, Tryd.ntmps25
  go_wp2_with (go_at_call 66; refine (first_calls 1 _).mono ?_; rintro e w2 ⟨rfl, hF2⟩)
  go_ret
  exact ⟨rfl, hF2⟩

theorem bag_text (a b : ByteArray) (w : World) (ha : a.size ≤ 1152921504606846976) (hb : b.size ≤ 1152921504606846976) : Calls Tryd.prog 27 #[.string a, .string b] w fun e w' => e = .returned (.string (bagT a b)) ∧ Fr Nil w w' := by
  have hsum : ¬ 9223372036854775807 < (⟨#[2]⟩ : ByteArray).size + a.size := by show ¬ _ < 1 + a.size; omega
  have hsum2 : ¬ 9223372036854775807 < (⟨#[2]⟩ : ByteArray).size + a.size + b.size := by show ¬ _ < 1 + a.size + b.size; omega
  go_enter Tryd.func27, Tryd.ntmps27
  go_wp2_with (go_at_call 66; refine (first_calls 2 _).mono ?_; rintro e w2 ⟨rfl, hF2⟩)
  go_ret
  exact ⟨rfl, hF2⟩

set_option maxRecDepth 100000 in
theorem dig_calls (k : Int) (s : ByteArray) (w : World) (hs : s.size ≤ 9223372036854775807) : Calls Tryd.prog 19 #[.int .i64 k, .string s] w fun e w' => e = .returned (.string (dig k s)) ∧ Fr Nil w w' := by
  have hcl := clamp_le k
  have hci := clamp_is k
  have hsz : (strB (sha s.data.toList)).size = 32 := by rw [strB_size, sha_length]
  go_enter Tryd.func19, Tryd.ntmps19
  go_wp2_with (go_at_call 13; have h4 : Has (w.alloc (.cells #[.string s] 9)) w.heap.size 1 9 (fun _ => .string s) := Has.new _ _ _ _ _ rfl (fun i hi => by obtain rfl : i = 0 := (by omega); rfl); refine (of_calls (some ⟨w.heap.size, 0, none⟩) 1 1 (fun _ => s) _ (by omega) (fun _ _ => hs) (h4.sl 0 1 (by omega))).mono ?_; rintro e w2 ⟨rfl, hF2⟩; rw [show cat (fun _ => s) 1 = s.data.toList from rfl])
  all_goals (go_ret; exact ⟨congrArg (fun n => Ending.returned (Value.string ((strB (sha s.data.toList)).extract 0 n))) (by unfold clamp; omega), (Fr.alloc1 _ _).then0 hF2⟩)

theorem leaf_dig (k : Int) (s : ByteArray) (w : World) (hs : s.size ≤ 1152921504606846976) : Calls Tryd.prog 32 #[.int .i64 k, .string s] w fun e w' => e = .returned (.string (dig k (leafT s))) ∧ Fr Nil w w' := by
  go_enter Tryd.func32, Tryd.ntmps32
  go_wp2_with (first
    | (go_at_call 23; refine (leaf_text s _ hs).mono ?_; rintro e w2 ⟨rfl, hF2⟩)
    | (go_at_call 19; refine (dig_calls k (leafT s) _ (by rw [leafT_size]; omega)).mono ?_; rintro e w3 ⟨rfl, hF3⟩))
  go_ret
  exact ⟨rfl, hF2.then0 hF3⟩

theorem node_dig (k : Int) (a b : ByteArray) (w : World) (ha : a.size ≤ 1152921504606846976) (hb : b.size ≤ 1152921504606846976) : Calls Tryd.prog 34 #[.int .i64 k, .string a, .string b] w fun e w' => e = .returned (.string (dig k (nodeT a b))) ∧ Fr Nil w w' := by
  go_enter Tryd.func34, Tryd.ntmps34
  go_wp2_with (first
    | (go_at_call 25; refine (node_text a b _ ha hb).mono ?_; rintro e w2 ⟨rfl, hF2⟩)
    | (go_at_call 19; refine (dig_calls k (nodeT a b) _ (by rw [nodeT_size]; omega)).mono ?_; rintro e w3 ⟨rfl, hF3⟩))
  go_ret
  exact ⟨rfl, hF2.then0 hF3⟩

theorem check_calls (k : Int) (w : World) : Calls Tryd.prog 21 #[.int .i64 k] w fun e w' => e = .returned (.int .i64 (if 1 ≤ k ∧ k ≤ 32 then 0 else 70)) ∧ Fr Nil w w' := by
  go_enter Tryd.func21, Tryd.ntmps21
  go_wp2
  all_goals (go_ret; exact ⟨rfl, Fr.refl _ _⟩)

/-- The peaks, bagged from the right: the last, and j more before it. -/
def bagD (k : Int) (f : Nat → ByteArray) (n : Nat) : Nat → ByteArray
  | 0 => f (n - 1)
  | j + 1 => dig k (bagT (f (n - 2 - j)) (bagD k f n j))

def bagged (k : Int) (f : Nat → ByteArray) (n : Nat) : ByteArray := if n = 0 then ⟨#[]⟩ else bagD k f n (n - 1)

theorem bagD_size (k : Int) (f : Nat → ByteArray) (n : Nat) (h : ∀ i, i < n → (f i).size ≤ 1152921504606846976) (hn : 0 < n) : ∀ j, (bagD k f n j).size ≤ 1152921504606846976
  | 0 => h _ (by omega)
  | j + 1 => by
    show (dig k _).size ≤ _
    rw [dig_size]
    have := clamp_le k
    omega

theorem bagged_size (k : Int) (f : Nat → ByteArray) (n : Nat) (h : ∀ i, i < n → (f i).size ≤ 1152921504606846976) : (bagged k f n).size ≤ 1152921504606846976 := by
  unfold bagged
  split
  · exact Nat.zero_le _
  · exact bagD_size k f n h (by omega) _

set_option maxRecDepth 100000 in
theorem bagged_calls (k : Int) (A : Option Addr) (n cap : Nat) (f : Nat → ByteArray) (w : World) (hn : n ≤ 9223372036854775807) (hs : ∀ i, i < n → (f i).size ≤ 1152921504606846976) (hA : SlAt w A n (fun i => .string (f i))) :
    Calls Tryd.prog 36 #[.int .i64 k, .slice A n cap] w fun e w' => e = .returned (.string (bagged k f n)) ∧ Fr Nil w w' := by
  go_enter Tryd.func36, Tryd.ntmps36
  by_cases hn0 : n = 0
  · subst hn0
    go_wp2
    go_ret
    exact ⟨rfl, Fr.refl _ _⟩
  · have hne : ((n : Int) == 0) = false := by rw [beq_eq_false_iff_ne]; omega
    obtain ⟨b, o, rfl, hb, hc⟩ := hA.at (by omega)
    have hcl := hc (n - 1) (by omega)
    have hi1 : IntKind.i64.wrap ((n : Int) - 1) = ((n - 1 : Nat) : Int) := by rw [IntWalk.i64_in _ (by omega)]; omega
    have hlt1 : n - 1 < n := by omega
    go_wp2
    have hsf := fun j => bagD_size k f n hs (by omega) j
    clear hcl hi1 hlt1
    go_loopw [5, 6] (fun v5 v6 wr => ∃ (j : Nat) (t : ByteArray), j + 1 ≤ n ∧ v6 = .int .i64 ((n : Int) - 2 - j) ∧ v5 = .string t ∧ Hid (t = bagD k f n j) ∧ Fr Nil w wr) (fun _ v _ => (intOf v + 1).toNat)
    case atStart => exact ⟨0, _, by omega, by go_num, rfl, rfl, Fr.refl _ _⟩
    case round =>
      obtain ⟨j, t, hj, rfl, rfl, HT, hF⟩ := hrel
      by_cases hlt : j + 1 < n
      · have hcj : wr.cell? ⟨b, o + (n - 2 - j), none⟩ = some (.string (f (n - 2 - j))) := by
          rw [hF.cell (p := ⟨b, o + (n - 2 - j), none⟩) hb (fun h => h)]
          exact hc _ (by omega)
        have hi : (n : Int) - 2 - j = ((n - 2 - j : Nat) : Int) := by omega
        have hts : t.size ≤ 1152921504606846976 := by rw [HT.out]; exact hsf j
        have hfs := hs (n - 2 - j) (by omega)
        have hlt2 : n - 2 - j < n := by omega
        rw [hi]
        go_wp2_with (first
          | (go_at_call 27; refine (bag_text _ _ _ hfs hts).mono ?_; rintro e w2 ⟨rfl, hF2⟩)
          | (go_at_call 19; refine (dig_calls k (bagT (f (n - 2 - j)) t) _ (by rw [bagT_size]; omega)).mono ?_; rintro e w3 ⟨rfl, hF3⟩))
        refine ⟨⟨j + 1, _, by omega, congrArg (Value.int .i64) (by omega), rfl, ?_, (hF.then0 hF2).then0 hF3⟩, by simp [intOf] <;> omega⟩
        show _ = dig k (bagT (f (n - 2 - j)) (bagD k f n j))
        rw [← HT.out]
      · have hjn : j = n - 1 := by omega
        have hneg : ¬ (0 ≤ (n : Int) - 2 - j) := by omega
        go_wp2
        go_ret
        refine ⟨?_, hF⟩
        have e : t = bagged k f n := by rw [HT.out, hjn]; unfold bagged; rw [if_neg hn0]
        rw [← e]
        rfl

theorem alloc8 (w : World) : (Instr.alloc 94 true (.tuple #[])).run Tryd.prog w = .ok (.pointer (some ⟨w.heap.size, 0, none⟩)) (w.alloc (.cells (cellsF 8 (fun _ => .int .u8 0)).toArray 94)) := by kernel_rfl

theorem slice8 (w : World) (b : Nat) : (Instr.sliceAt 94 (.pointer (some ⟨b, 0, none⟩)) none none none).run Tryd.prog w = .ok (.slice (some ⟨b, 0, none⟩) 8 8) w := by kernel_rfl

theorem size_digit (N i : Nat) (hi : i < 8) : (N : Int) / 2 ^ (56 - 8 * i) % 256 = (((big N 8).getD i 0).toNat : Int) := by
  rw [big_get _ _ _ hi, byte_of]
  match i, hi with
  | 0, _ => simp only [Nat.mul_zero, Nat.sub_zero, Nat.reducePow, Int.reducePow, Nat.reduceSub]; omega
  | 1, _ => simp only [Nat.reduceMul, Nat.reduceSub, Nat.reducePow, Int.reducePow]; omega
  | 2, _ => simp only [Nat.reduceMul, Nat.reduceSub, Nat.reducePow, Int.reducePow]; omega
  | 3, _ => simp only [Nat.reduceMul, Nat.reduceSub, Nat.reducePow, Int.reducePow]; omega
  | 4, _ => simp only [Nat.reduceMul, Nat.reduceSub, Nat.reducePow, Int.reducePow]; omega
  | 5, _ => simp only [Nat.reduceMul, Nat.reduceSub, Nat.reducePow, Int.reducePow]; omega
  | 6, _ => simp only [Nat.reduceMul, Nat.reduceSub, Nat.reducePow, Int.reducePow]; omega
  | 7, _ => simp only [Nat.reduceMul, Nat.reduceSub, Nat.reducePow, Int.reducePow]; omega

/-- The first i bytes of a size are laid. -/
def sizeF (N i j : Nat) : Value := if j < i then .int .u8 (((big N 8).getD j 0).toNat : Int) else .int .u8 0

set_option maxRecDepth 100000 in
theorem root_text (N : Nat) (d : ByteArray) (w : World) (hN : N < 18446744073709551616) (hd : d.size ≤ 1152921504606846976) :
    Calls Tryd.prog 29 #[.int .u64 (N : Int), .string d] w fun e w' => e = .returned (.string (rootT N d)) ∧ Fr Nil w w' := by
  go_enter Tryd.func29, Tryd.ntmps29
  go_wp2_with (refine wpList_alloc rfl 94 rfl 8 94 _ (alloc8 _) ?_; intro w2 hB hF hz)
  obtain ⟨b, hbe⟩ : ∃ b, b = w.heap.size := ⟨_, rfl⟩
  rw [← hbe] at hB ⊢
  have hwb : w.heap.size ≤ b := by omega
  clear hz hbe
  have hB0 := hB.congr (g := sizeF N 0) fun j hj => by unfold sizeF; rw [if_neg (by omega)]
  go_loopw [7] (fun v7 wr => ∃ i : Nat, i ≤ 8 ∧ v7 = .int .i64 i ∧ Has wr b 8 94 (sizeF N i) ∧ Fr Nil w wr) (fun v _ => 8 - (intOf v).toNat)
  case atStart => exact ⟨0, by omega, rfl, hB0, hF⟩
  case round =>
    clear hB0 hB hF
    obtain ⟨i, hi, rfl, hB, hF⟩ := hrel
    by_cases hlt : i < 8
    · have hc := hB.cell i hlt
      have hf := hB.free i
      go_wp2
      rw [size_digit _ _ hlt]
      refine ⟨⟨i + 1, by omega, by go_num, (hB.put i _).congr fun j hj => ?_, hF.setCell _ _ (.inl hwb)⟩, by simp [intOf]; omega⟩
      unfold sizeF
      by_cases e : j = i
      · rw [if_pos e, if_pos (by omega), e]
      · rw [if_neg e]
        by_cases e2 : j < i
        · rw [if_pos e2, if_pos (by omega)]
        · rw [if_neg e2, if_neg (by omega)]
    · have h8 : i = 8 := by omega
      subst h8
      have hsl : ∀ x : QTail.Later wr, (Instr.sliceAt 94 (.pointer (some ⟨b, 0, none⟩)) none none none).run Tryd.prog x.w = .ok (.slice (some ⟨b, 0, none⟩) 8 8) x.w := fun x => slice8 x.w b
      obtain ⟨sb, hsb⟩ : ∃ sb : ByteArray, strB (big N 8) = sb := ⟨_, rfl⟩
      have hcv : ∀ x : QTail.Later wr, (convert 30 9 (.slice (some ⟨b, 0, none⟩) 8 8)).run Tryd.prog x.w = .ok (.string sb) x.w := fun x => by
        rw [← hsb]
        exact conv_bytes (P := Tryd.prog) Tryd.underlying30 Tryd.underlying5 Tryd.underlying9 (x.fr.has hB (fun h => h)) 0 8 8 (big N 8) (big_length _ _) (by rw [big_length]; omega) (fun j hj => by
          rw [big_length] at hj
          rw [Nat.zero_add]
          unfold sizeF
          rw [if_pos hj])
      have hsb8 : sb.size = 8 := by rw [← hsb, strB_size, big_length]
      have hsum : ¬ 9223372036854775807 < (⟨#[3]⟩ : ByteArray).size + sb.size := by show ¬ _ < 1 + sb.size; omega
      have hsum2 : ¬ 9223372036854775807 < (⟨#[3]⟩ : ByteArray).size + sb.size + d.size := by show ¬ _ < 1 + sb.size + d.size; omega
      have hsum3 : ¬ 9223372036854775807 < 1 + sb.size + d.size := by omega
      have hsum4 : ¬ 9223372036854775807 < 1 + sb.size := by omega
      have HSB := Lib.hid hsb
      have hfirst := first_calls 3
      clear hsb hsb8
      go_wp2
      refine QTail.quiet (QTail.In wr) (by kernel_rfl) (by kernel_rfl) (QTail.In.mk (Fr.refl _ _).drew) ?_
      repeat (first | go_big_quiet_step ((go_at_call 66; exact QTail.calls_later (hfirst _))) | quiet_step ((go_at_call 66; exact QTail.calls_later (hfirst _))))
      refine wpQuiet_nil ?_
      rintro _ ⟨x, rfl⟩
      go_wp2
      go_ret
      refine ⟨?_, hF.then0 x.fr⟩
      unfold rootT
      rw [HSB.out]
      rfl

theorem root_dig (k : Int) (N : Nat) (A : Option Addr) (n cap : Nat) (f : Nat → ByteArray) (w : World) (hN : N < 18446744073709551616) (hn : n ≤ 9223372036854775807) (hs : ∀ i, i < n → (f i).size ≤ 1152921504606846976) (hA : SlAt w A n (fun i => .string (f i))) :
    Calls Tryd.prog 38 #[.int .i64 k, .int .u64 (N : Int), .slice A n cap] w fun e w' => e = .returned (.string (dig k (rootT N (bagged k f n)))) ∧ Fr Nil w w' := by
  have hb := bagged_size k f n hs
  go_enter Tryd.func38, Tryd.ntmps38
  go_wp2_with (first
    | (go_at_call 36; refine (bagged_calls k A n cap f _ hn hs hA).mono ?_; rintro e w2 ⟨rfl, hF2⟩)
    | (go_at_call 29; refine (root_text N (bagged k f n) _ hN hb).mono ?_; rintro e w3 ⟨rfl, hF3⟩)
    | (go_at_call 19; refine (dig_calls k (rootT N (bagged k f n)) _ (by rw [rootT_size]; omega)).mono ?_; rintro e w4 ⟨rfl, hF4⟩))
  go_ret
  exact ⟨rfl, (hF2.then0 hF3).then0 hF4⟩

end Go.Proofs.YtldiecblcnoleaaDoor.Hash
