/- The reference's layer 7: the same texts and digests as hash.*. Conditions: the lists can be read; the texts' sizes; the reference's tables. -/
import Derived.Test.YtldiecblcnoleaaDoorHash07
namespace Go.Proofs.YtldiecblcnoleaaDoor.Hash
open Go.RowKit Go.Proofs.YtldiecblcnoleaaDoor.Mem Go.Proofs.YtldiecblcnoleaaDoor.Sha
set_option linter.unusedVariables false
set_option linter.unusedSimpArgs false

theorem text_calls (x : UInt8) (a b : ByteArray) (w : World) (ha : a.size ≤ 1152921504606846976) (hb : b.size ≤ 1152921504606846976) : Calls Tryd.prog 67 #[.int .u8 (x.toNat : Int), .string a, .string b] w fun e w' => e = .returned (.string (⟨#[x]⟩ ++ a ++ b)) ∧ Fr Nil w w' := by
  have hc := conv_one x
  have hsum3 : ¬ 9223372036854775807 < 1 + a.size + b.size := by omega
  have hsum4 : ¬ 9223372036854775807 < 1 + a.size := by omega
  go_enter Tryd.func67, Tryd.ntmps67
  go_wp2
  go_ret
  exact ⟨rfl, Fr.alloc1 _ _⟩

theorem leafT_is (s : ByteArray) : (⟨#[0]⟩ : ByteArray) ++ s ++ ⟨#[]⟩ = leafT s := ByteArray.append_empty

theorem rleaf_text (s : ByteArray) (w : World) (hs : s.size ≤ 1152921504606846976) : Calls Tryd.prog 24 #[.string s] w fun e w' => e = .returned (.string (leafT s)) ∧ Fr Nil w w' := by
  go_enter Tryd.func24, Tryd.ntmps24
  go_wp2_with (go_at_call 67; refine (text_calls 0 s ⟨#[]⟩ _ hs (Nat.zero_le _)).mono ?_; rintro e w2 ⟨rfl, hF2⟩; rw [leafT_is])
  go_ret
  exact ⟨rfl, hF2⟩

theorem rnode_text (a b : ByteArray) (w : World) (ha : a.size ≤ 1152921504606846976) (hb : b.size ≤ 1152921504606846976) : Calls Tryd.prog 26 #[.string a, .string b] w fun e w' => e = .returned (.string (nodeT a b)) ∧ Fr Nil w w' := by
  go_enter Tryd.func26, Tryd.ntmps26
  go_wp2_with (go_at_call 67; refine (text_calls 1 a b _ ha hb).mono ?_; rintro e w2 ⟨rfl, hF2⟩)
  go_ret
  exact ⟨rfl, hF2⟩

theorem rbag_text (a b : ByteArray) (w : World) (ha : a.size ≤ 1152921504606846976) (hb : b.size ≤ 1152921504606846976) : Calls Tryd.prog 28 #[.string a, .string b] w fun e w' => e = .returned (.string (bagT a b)) ∧ Fr Nil w w' := by
  go_enter Tryd.func28, Tryd.ntmps28
  go_wp2_with (go_at_call 67; refine (text_calls 2 a b _ ha hb).mono ?_; rintro e w2 ⟨rfl, hF2⟩)
  go_ret
  exact ⟨rfl, hF2⟩

set_option maxRecDepth 100000 in
theorem rdig_calls (k : Int) (s : ByteArray) (w : World) (hs : s.size ≤ 72057594037927936) (hG : GL w) : Calls Tryd.prog 31 #[.int .i64 k, .string s] w fun e w' => e = .returned (.string (dig k s)) ∧ Fr Nil w w' := by
  have hcl := clamp_le k
  have hci := clamp_is k
  have hsz : (strB (sha s.data.toList)).size = 32 := by rw [strB_size, sha_length]
  have hcs : (cat (fun _ => s) 1).length ≤ 72057594037927936 := by
    show s.data.toList.length ≤ _
    rw [← Lib.size_eq]
    exact hs
  go_enter Tryd.func31, Tryd.ntmps31
  go_wp2_with (go_at_call 14; have h4 : Has (w.alloc (.cells #[.string s] 9)) w.heap.size 1 9 (fun _ => .string s) := Has.new _ _ _ _ _ rfl (fun i hi => by obtain rfl : i = 0 := (by omega); rfl); refine (refof_calls (some ⟨w.heap.size, 0, none⟩) 1 1 (fun _ => s) _ (by omega) hcs (h4.sl 0 1 (by omega)) (hG.fr0 (Fr.alloc1 _ _))).mono ?_; rintro e w2 ⟨rfl, hF2⟩; rw [show cat (fun _ => s) 1 = s.data.toList from rfl])
  all_goals (go_ret; exact ⟨congrArg (fun n => Ending.returned (Value.string ((strB (sha s.data.toList)).extract 0 n))) (by unfold clamp; omega), (Fr.alloc1 _ _).then0 hF2⟩)

theorem rleaf_dig (k : Int) (s : ByteArray) (w : World) (hs : s.size ≤ 36028797018963968) (hG : GL w) : Calls Tryd.prog 33 #[.int .i64 k, .string s] w fun e w' => e = .returned (.string (dig k (leafT s))) ∧ Fr Nil w w' := by
  go_enter Tryd.func33, Tryd.ntmps33
  go_wp2_with (first
    | (go_at_call 24; refine (rleaf_text s _ (by omega)).mono ?_; rintro e w2 ⟨rfl, hF2⟩)
    | (go_at_call 31; refine (rdig_calls k (leafT s) _ (by rw [leafT_size]; omega) (hG.fr0 hF2)).mono ?_; rintro e w3 ⟨rfl, hF3⟩))
  go_ret
  exact ⟨rfl, hF2.then0 hF3⟩

theorem rnode_dig (k : Int) (a b : ByteArray) (w : World) (ha : a.size ≤ 18014398509481984) (hb : b.size ≤ 18014398509481984) (hG : GL w) : Calls Tryd.prog 35 #[.int .i64 k, .string a, .string b] w fun e w' => e = .returned (.string (dig k (nodeT a b))) ∧ Fr Nil w w' := by
  go_enter Tryd.func35, Tryd.ntmps35
  go_wp2_with (first
    | (go_at_call 26; refine (rnode_text a b _ (by omega) (by omega)).mono ?_; rintro e w2 ⟨rfl, hF2⟩)
    | (go_at_call 31; refine (rdig_calls k (nodeT a b) _ (by rw [nodeT_size]; omega) (hG.fr0 hF2)).mono ?_; rintro e w3 ⟨rfl, hF3⟩))
  go_ret
  exact ⟨rfl, hF2.then0 hF3⟩

theorem rcheck_calls (k : Int) (w : World) : Calls Tryd.prog 22 #[.int .i64 k] w fun e w' => e = .returned (.int .i64 (if 1 ≤ k ∧ k ≤ 32 then 0 else 70)) ∧ Fr Nil w w' := by
  go_enter Tryd.func22, Tryd.ntmps22
  go_wp2
  all_goals (go_ret; exact ⟨rfl, Fr.refl _ _⟩)

theorem bagD_size2 (k : Int) (f : Nat → ByteArray) (n : Nat) (h : ∀ i, i < n → (f i).size ≤ 18014398509481984) (hn : 0 < n) : ∀ j, (bagD k f n j).size ≤ 18014398509481984
  | 0 => h _ (by omega)
  | j + 1 => by
    show (dig k _).size ≤ _
    rw [dig_size]
    have := clamp_le k
    omega

theorem bagged_size2 (k : Int) (f : Nat → ByteArray) (n : Nat) (h : ∀ i, i < n → (f i).size ≤ 18014398509481984) : (bagged k f n).size ≤ 18014398509481984 := by
  unfold bagged
  split
  · exact Nat.zero_le _
  · exact bagD_size2 k f n h (by omega) _

set_option maxRecDepth 100000 in
theorem rbagged_calls (k : Int) (A : Option Addr) (n cap : Nat) (f : Nat → ByteArray) (w : World) (hn : n ≤ 9223372036854775807) (hs : ∀ i, i < n → (f i).size ≤ 18014398509481984) (hA : SlAt w A n (fun i => .string (f i))) (hG : GL w) :
    Calls Tryd.prog 37 #[.int .i64 k, .slice A n cap] w fun e w' => e = .returned (.string (bagged k f n)) ∧ Fr Nil w w' := by
  go_enter Tryd.func37, Tryd.ntmps37
  by_cases hn0 : n = 0
  · subst hn0
    go_wp2
    go_ret
    exact ⟨rfl, Fr.refl _ _⟩
  · have hne : ((n : Int) == 0) = false := by rw [beq_eq_false_iff_ne]; omega
    obtain ⟨b, o, rfl, hb, hc⟩ := hA.at (by omega)
    have hcl := hc (n - 1) (by omega)
    have hi1 : IntKind.i64.wrap ((n : Int) - 1) = ((n - 1 : Nat) : Int) := by rw [IntWalk.i64_in _ (by omega)]; omega
    have hlt1 : n - 1 < n := by omega
    go_wp2
    have hsf := fun j => bagD_size2 k f n hs (by omega) j
    clear hcl hi1 hlt1
    go_loopw [5, 6] (fun v5 v6 wr => ∃ (j : Nat) (t : ByteArray), j + 1 ≤ n ∧ v6 = .int .i64 ((n : Int) - 2 - j) ∧ v5 = .string t ∧ Hid (t = bagD k f n j) ∧ Fr Nil w wr) (fun _ v _ => (intOf v + 1).toNat)
    case atStart => exact ⟨0, _, by omega, by go_num, rfl, rfl, Fr.refl _ _⟩
    case round =>
      obtain ⟨j, t, hj, rfl, rfl, HT, hF⟩ := hrel
      by_cases hlt : j + 1 < n
      · have hcj : wr.cell? ⟨b, o + (n - 2 - j), none⟩ = some (.string (f (n - 2 - j))) := by
          rw [hF.cell (p := ⟨b, o + (n - 2 - j), none⟩) hb (fun h => h)]
          exact hc _ (by omega)
        have hi : (n : Int) - 2 - j = ((n - 2 - j : Nat) : Int) := by omega
        have hts : t.size ≤ 18014398509481984 := by rw [HT.out]; exact hsf j
        have hfs := hs (n - 2 - j) (by omega)
        have hlt2 : n - 2 - j < n := by omega
        rw [hi]
        go_wp2_with (first
          | (go_at_call 28; refine (rbag_text _ _ _ (by omega) (by omega)).mono ?_; rintro e w2 ⟨rfl, hF2⟩)
          | (go_at_call 31; refine (rdig_calls k (bagT (f (n - 2 - j)) t) _ (by rw [bagT_size]; omega) (hG.fr0 (hF.then0 hF2))).mono ?_; rintro e w3 ⟨rfl, hF3⟩))
        refine ⟨⟨j + 1, _, by omega, congrArg (Value.int .i64) (by omega), rfl, ?_, (hF.then0 hF2).then0 hF3⟩, by simp [intOf] <;> omega⟩
        show _ = dig k (bagT (f (n - 2 - j)) (bagD k f n j))
        rw [← HT.out]
      · have hjn : j = n - 1 := by omega
        have hneg : ¬ (0 ≤ (n : Int) - 2 - j) := by omega
        go_wp2
        go_ret
        refine ⟨?_, hF⟩
        have e : t = bagged k f n := by rw [HT.out, hjn]; unfold bagged; rw [if_neg hn0]
        rw [← e]
        rfl

set_option maxRecDepth 100000 in
theorem rroot_text (N : Nat) (d : ByteArray) (w : World) (hN : N < 18446744073709551616) (hd : d.size ≤ 1152921504606846976) :
    Calls Tryd.prog 30 #[.int .u64 (N : Int), .string d] w fun e w' => e = .returned (.string (rootT N d)) ∧ Fr Nil w w' := by
  go_enter Tryd.func30, Tryd.ntmps30
  go_wp2
  go_loopw [0, 5, 6] (fun v0 v5 v6 wr => ∃ (i X : Nat) (t : ByteArray), i ≤ 8 ∧ Hid (X = N / 256 ^ i) ∧ X < 18446744073709551616 ∧ v0 = .int .u64 X ∧ v5 = .string t ∧ v6 = .int .i64 i ∧ Hid (t.data.toList = big N i) ∧ Fr Nil w wr) (fun _ _ v _ => 8 - (intOf v).toNat)
  case atStart => exact ⟨0, N, _, by omega, by show N = _; simp, hN, rfl, rfl, rfl, rfl, Fr.refl _ _⟩
  case round =>
    obtain ⟨i, X, t, hi, HX, hX, rfl, rfl, rfl, HT, hF⟩ := hrel
    by_cases hlt : i < 8
    · have hc := conv_one (UInt8.ofNat X)
      have hts : t.size = i := by rw [Lib.size_eq, HT.out, big_length]
      have hsum : ¬ 9223372036854775807 < 1 + t.size := by omega
      rw [byte_of] at hc
      clear hts
      go_wp2
      refine ⟨⟨i + 1, X / 256, _, by omega, ?_, by omega, by rw [Int.natCast_ediv]; rfl, rfl, by go_num, ?_, hF.then0 (Fr.alloc1 _ _)⟩, by simp [intOf]; omega⟩
      · show X / 256 = N / 256 ^ (i + 1)
        rw [HX.out, Nat.div_div_eq_div_mul, Nat.pow_succ]
      · show (⟨#[UInt8.ofNat X]⟩ ++ t : ByteArray).data.toList = UInt8.ofNat (N / 256 ^ i) :: big N i
        rw [ByteArray.data_append, Array.toList_append, HT.out, ← HX.out]
        rfl
    · have h8 : i = 8 := by omega
      subst h8
      have hts : t.size = 8 := by rw [Lib.size_eq, HT.out, big_length]
      have htb : t = strB (big N 8) := by
        apply ByteArray.ext
        apply Array.toList_inj.1
        rw [HT.out]
        rfl
      have hts2 : t.size ≤ 1152921504606846976 := by omega
      have HTB := Lib.hid htb
      clear hts htb
      go_wp2_with (go_at_call 67; refine (text_calls 3 t d _ hts2 hd).mono ?_; rintro e w2 ⟨rfl, hF2⟩)
      go_ret
      refine ⟨?_, hF.then0 hF2⟩
      unfold rootT
      rw [← HTB.out]
      rfl

theorem rroot_dig (k : Int) (N : Nat) (A : Option Addr) (n cap : Nat) (f : Nat → ByteArray) (w : World) (hN : N < 18446744073709551616) (hn : n ≤ 9223372036854775807) (hs : ∀ i, i < n → (f i).size ≤ 18014398509481984) (hA : SlAt w A n (fun i => .string (f i))) (hG : GL w) :
    Calls Tryd.prog 39 #[.int .i64 k, .int .u64 (N : Int), .slice A n cap] w fun e w' => e = .returned (.string (dig k (rootT N (bagged k f n)))) ∧ Fr Nil w w' := by
  have hb := bagged_size2 k f n hs
  go_enter Tryd.func39, Tryd.ntmps39
  go_wp2_with (first
    | (go_at_call 37; refine (rbagged_calls k A n cap f _ hn hs hA hG).mono ?_; rintro e w2 ⟨rfl, hF2⟩)
    | (go_at_call 30; refine (rroot_text N (bagged k f n) _ hN (by omega)).mono ?_; rintro e w3 ⟨rfl, hF3⟩)
    | (go_at_call 31; refine (rdig_calls k (rootT N (bagged k f n)) _ (by rw [rootT_size]; omega) (hG.fr0 (hF2.then0 hF3))).mono ?_; rintro e w4 ⟨rfl, hF4⟩))
  go_ret
  exact ⟨rfl, (hF2.then0 hF3).then0 hF4⟩

end Go.Proofs.YtldiecblcnoleaaDoor.Hash
