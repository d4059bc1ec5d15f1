/- The reference's SHA-256: contracts of Big, plan, mixed, Of. Conditions: the reference's tables hold what the row lists; the parts can be read. -/
import Derived.Test.YtldiecblcnoleaaDoorShaOf
namespace Go.Proofs.YtldiecblcnoleaaDoor.Sha
open Go.RowKit Go.Proofs.YtldiecblcnoleaaDoor.Mem
set_option linter.unusedVariables false
set_option linter.unusedSimpArgs false

def bigF (N n k j : Nat) : Value := if j + k < n then .int .u8 0 else encB (UInt8.ofNat (N / 256 ^ (n - 1 - j)))

theorem info_u8 : (Tryd.prog.info? 5).map (fun i => (i.zero, i.size, i.bytes)) = some (some (.int .u8 0), 1, 1) := by kernel_rfl

set_option maxRecDepth 100000 in
set_option maxHeartbeats 1000000 in
theorem big_calls (N n : Nat) (w : World) (hn : n ≤ 1000) (hN : N < 18446744073709551616) :
    Calls Tryd.prog 62 #[.int .u64 (N : Int), .int .i64 (n : Int)] w fun e w' => e = .returned (.string (strB (big N n))) ∧ Fr Nil w w' := by
  go_enter Tryd.func62, Tryd.ntmps62
  go_wp2_with (refine wpList_make rfl 30 _ _ rfl n rfl rfl 5 (.int .u8 0) 1 Tryd.underlying30 info_u8 rfl (by omega) (by omega) ?_; intro w2 hB hF hsz)
  obtain ⟨b, hbe⟩ : ∃ b, b = w.heap.size := ⟨_, rfl⟩
  rw [← hbe] at hB ⊢
  have HBE := Lib.hid hbe
  clear hsz hbe
  go_loopw [0, 6] (fun v0 v6 wr => ∃ k X : Nat, k ≤ n ∧ Hid (X = N / 256 ^ k) ∧ X < 18446744073709551616 ∧ v0 = .int .u64 X ∧ v6 = .int .i64 ((n : Int) - 1 - k) ∧ Has wr b n 5 (bigF N n k) ∧ Fr Nil w wr) (fun _ v _ => (intOf v + 1).toNat)
  case atStart =>
    refine ⟨0, N, Nat.zero_le _, by show N = _; simp, hN, rfl, by go_num, hB.congr fun j hj => ?_, hF⟩
    unfold bigF
    rw [if_pos (by omega)]
  case round =>
    clear hB hF
    obtain ⟨k, X, hk, HX, hX, rfl, rfl, hB, hF⟩ := hrel
    by_cases hlt : k < n
    · have hc := hB.cell (n - 1 - k) (by omega)
      have hf := hB.free (n - 1 - k)
      have hi : (n : Int) - 1 - k = ((n - 1 - k : Nat) : Int) := by omega
      rw [hi]
      go_wp2
      refine ⟨⟨k + 1, X / 256, by omega, ?_, by omega, by rw [Int.natCast_ediv]; rfl, congrArg (Value.int .i64) (by omega), (hB.put (n - 1 - k) _).congr fun j hj => ?_, hF.setCell _ _ (.inl (Nat.le_of_eq HBE.out.symm))⟩, by simp [intOf] <;> omega⟩
      · show X / 256 = N / 256 ^ (k + 1)
        rw [HX.out, Nat.div_div_eq_div_mul, Nat.pow_succ]
      · by_cases e : j = n - 1 - k
        · rw [if_pos e]
          unfold bigF
          rw [if_neg (by omega), e, show n - 1 - (n - 1 - k) = k from by omega, ← HX.out]
          unfold encB
          rw [byte_of]
        · rw [if_neg e]
          unfold bigF
          by_cases e2 : j + k < n
          · rw [if_pos e2, if_pos (by omega)]
          · rw [if_neg e2, if_neg (by omega)]
    · have hkn : k = n := by omega
      subst hkn
      have hcv := conv_bytes (P := Tryd.prog) Tryd.underlying30 Tryd.underlying5 Tryd.underlying9 hB 0 k k (big N k) (big_length _ _) (by rw [big_length]; omega) (fun j hj => by
        rw [big_length] at hj
        rw [Nat.zero_add, big_get _ _ _ hj]
        unfold bigF
        rw [if_neg (by omega)]
        rfl)
      go_wp2
      go_ret
      exact ⟨rfl, hF⟩

/-- A text's bytes. -/
def strF (s : ByteArray) (i : Nat) : UInt8 := s.data.toList.getD i 0

theorem mul_step (x : W32) (c : UInt8) : ((x.toNat : Int) * (256 : Int) + (c.toNat : Int)) % (4294967296 : Int) = ((x <<< 8 ||| byteW c).toNat : Int) := by
  have h := mul_add_w x c
  rw [← h, BitVec.toNat_add, BitVec.toNat_mul, byte_w c]
  have := toNat_lt (byteW c)
  have e : BitVec.toNat ((256 : Nat) : W32) = 256 := rfl
  rw [e]
  omega

theorem alloc_words (w : World) : (Instr.alloc 86 true (.tuple #[])).run Tryd.prog w = .ok (.pointer (some ⟨w.heap.size, 0, none⟩)) (w.alloc (.cells (cellsF 64 (wordsF [])).toArray 86)) := by kernel_rfl

set_option maxRecDepth 100000 in
set_option maxHeartbeats 1000000 in
theorem plan_calls (s : ByteArray) (w : World) (hs : s.size = 64) :
    Calls Tryd.prog 81 #[.string s] w fun e w' => e = .returned (aggF 64 (wordsF (sch1 (strF s) 48))) ∧ Fr Nil w w' := by
  have HS := Lib.hid hs
  have hs64 : 64 ≤ s.size := by omega
  clear hs
  go_enter Tryd.func81, Tryd.ntmps81
  iterate 3 go_step
  refine wpList_alloc rfl 86 rfl 64 86 _ (alloc_words _) ?_
  intro w2 hR hF2 hsz2
  iterate 5 go_step
  refine wpList_alloc rfl 86 rfl 64 86 _ (alloc_words _) ?_
  intro w3 hW hF3 hsz3
  have hR3 := hF3.has hR (fun h => h)
  have hF := hF2.then0 hF3
  obtain ⟨rb, hrb⟩ : ∃ rb, rb = w.heap.size := ⟨_, rfl⟩
  obtain ⟨wb, hwb⟩ : ∃ wb, wb = w2.heap.size := ⟨_, rfl⟩
  rw [← hrb] at hR3 ⊢
  rw [← hwb] at hW ⊢
  have hrw : rb < wb := by omega
  have HRB := Lib.hid hrb
  clear hrb hwb hR hF2 hF3 hsz2 hsz3
  go_wp2
  go_loopw [4] (fun v4 wr => ∃ t : Nat, t ≤ 16 ∧ v4 = .int .i64 t ∧ Has wr wb 64 86 (wordsF (sch0 (strF s) t)) ∧ Has wr rb 64 86 (wordsF []) ∧ Fr Nil w wr) (fun v _ => 16 - (intOf v).toNat)
  case atStart => exact ⟨0, Nat.zero_le _, rfl, hW, hR3, hF⟩
  case round =>
    clear hW hR3 hF
    obtain ⟨t, ht, rfl, hW, hR, hF⟩ := hrel
    obtain ⟨wo, rfl⟩ : ∃ wo : World, wo = wr := ⟨_, rfl⟩
    have hbw : w.heap.size ≤ wb := by have := HRB.out; omega
    by_cases hlt : t < 16
    · have hlen := sch0_length (strF s) t
      have HL := Lib.hid hlen
      clear hlen
      go_wp2
      go_loopw [5] (fun v5 wi => ∃ i : Nat, i ≤ 4 ∧ v5 = .int .i64 i ∧ Has wi wb 64 86 (wordsF (sch0 (strF s) t ++ [wpart (strF s) t i])) ∧ Has wi rb 64 86 (wordsF []) ∧ Fr Nil w wi) (fun v _ => 4 - (intOf v).toNat)
      case atStart => exact ⟨0, by omega, rfl, hW.congr fun i hi => wordsF_zero _ _, hR, hF⟩
      case round =>
        obtain ⟨i, hi, rfl, hW1, hR1, hF1⟩ := hrel
        by_cases hli : i < 4
        · have hix : ∀ w, (Instr.index 9 (.string s) (.int .i64 (4 * (t : Int) + (i : Int)))).run Tryd.prog w = .ok (.int .u8 ((strF s (4 * t + i)).toNat : Int)) w := by
            have h := index_str (P := Tryd.prog) Tryd.underlying9 s (4 * t + i) (by omega)
            simp only [Int.natCast_add, Int.natCast_mul, Int.cast_ofNat_Int] at h
            exact h
          have hc2 : wr.cell? ⟨wb, t, none⟩ = some (.int .u32 (wpart (strF s) t i).toNat) := by
            rw [hW1.cell _ (by omega)]
            congr 1
            exact (congrArg (wordsF _) HL.out.symm).trans (wordsF_last _ _)
          have hc3 := hW1.free t
          go_wp2
          refine QTail.region (fun w' => ∃ k, w' = wr.drewN k) 14 (by kernel_rfl) (by kernel_rfl) ⟨1, rfl⟩ ?_
          simp only [List.take_succ_cons, List.take_zero, List.drop_succ_cons, List.drop_zero]
          repeat (first | go_big_quiet_step (fail) | quiet_step (fail))
          refine wpQuiet_nil ?_
          rintro _ ⟨nq, rfl⟩
          go_wp2
          rw [mul_step]
          refine ⟨⟨i + 1, by omega, by go_num, ((hW1.drewN nq).put t _).congr fun j hj => ?_, (hR1.drewN nq).far _ _ (by show rb ≠ wb; omega), (hF1.drewN nq).setCell _ _ (.inl hbw)⟩, by simp [intOf]; omega⟩
          have e := wordsF_put (sch0 (strF s) t) (wpart (strF s) t i) (wpart (strF s) t (i + 1)) j
          rw [HL.out] at e
          exact e
        · have h4 : i = 4 := by omega
          subst h4
          go_wp2
          go_roundw
          case rel => exact ⟨t + 1, by omega, by go_num, hW1, hR1, hF1⟩
          case measure => simp [intOf]; omega
    · have h16 : t = 16 := by omega
      subst h16
      go_wp2
      go_loopw [6] (fun v6 wr => ∃ t : Nat, t ≤ 48 ∧ v6 = .int .i64 (16 + (t : Int)) ∧ Has wr wb 64 86 (wordsF (sch1 (strF s) t)) ∧ Has wr rb 64 86 (wordsF []) ∧ Fr Nil w wr) (fun v _ => 64 - (intOf v).toNat)
      case atStart => exact ⟨0, by omega, rfl, hW, hR, hF⟩
      case round =>
        obtain ⟨t, ht, rfl, hw1, hR1, hfr1⟩ := hrel
        by_cases hlt : t < 48
        · have hlen := sch1_length (strF s) t
          have L1 : wr.cell? ⟨wb, 1 + t, none⟩ = some (.int .u32 ((sch1 (strF s) t).getD (1 + t) 0).toNat) := hw1.cell _ (by omega)
          have L14 : wr.cell? ⟨wb, 14 + t, none⟩ = some (.int .u32 ((sch1 (strF s) t).getD (14 + t) 0).toNat) := hw1.cell _ (by omega)
          have L0 : wr.cell? ⟨wb, t, none⟩ = some (.int .u32 ((sch1 (strF s) t).getD t 0).toNat) := hw1.cell _ (by omega)
          have L9 : wr.cell? ⟨wb, 9 + t, none⟩ = some (.int .u32 ((sch1 (strF s) t).getD (9 + t) 0).toNat) := hw1.cell _ (by omega)
          have L16 : wr.cell? ⟨wb, 16 + t, none⟩ = some (.int .u32 ((sch1 (strF s) t).getD (16 + t) 0).toNat) := hw1.cell _ (by omega)
          have F16 := hw1.free (16 + t)
          obtain ⟨x0, hx0⟩ : ∃ x, (sch1 (strF s) t).getD t 0 = x := ⟨_, rfl⟩
          obtain ⟨x1, hx1⟩ : ∃ x, (sch1 (strF s) t).getD (1 + t) 0 = x := ⟨_, rfl⟩
          obtain ⟨x9, hx9⟩ : ∃ x, (sch1 (strF s) t).getD (9 + t) 0 = x := ⟨_, rfl⟩
          obtain ⟨x14, hx14⟩ : ∃ x, (sch1 (strF s) t).getD (14 + t) 0 = x := ⟨_, rfl⟩
          rw [hx0] at L0
          rw [hx1] at L1
          rw [hx9] at L9
          rw [hx14] at L14
          have HX := Lib.hid (And.intro hx0 (And.intro hx1 (And.intro hx9 hx14)))
          have HL := Lib.hid hlen
          clear hx0 hx1 hx9 hx14 hlen
          have i15 : IntKind.i64.wrap (16 + (t : Int) - 15) = ((1 + t : Nat) : Int) := by rw [IntWalk.i64_in _ (by omega)]; omega
          have i2 : IntKind.i64.wrap (16 + (t : Int) - 2) = ((14 + t : Nat) : Int) := by rw [IntWalk.i64_in _ (by omega)]; omega
          have i16 : IntKind.i64.wrap (16 + (t : Int) - 16) = (t : Int) := by rw [IntWalk.i64_in _ (by omega)]; omega
          have i7 : IntKind.i64.wrap (16 + (t : Int) - 7) = ((9 + t : Nat) : Int) := by rw [IntWalk.i64_in _ (by omega)]; omega
          go_wp2
          refine QTail.region (fun w' => ∃ n, w' = wr.drewN n) 29 (by kernel_rfl) (by kernel_rfl) ⟨1, rfl⟩ ?_
          simp only [List.take_succ_cons, List.take_zero, List.drop_succ_cons, List.drop_zero]
          repeat (first | go_big_quiet_step ((go_at_call 82; exact Calls.quiet_of (refturn_k _ _ (by decide) (by decide) _))) | quiet_step (fail))
          refine wpQuiet_nil ?_
          rintro _ ⟨nq2, rfl⟩
          clear i15 i2 i16 i7
          go_wp2
          rw [ext_val]
          refine ⟨⟨t + 1, by omega, by go_num, ((hw1.drewN nq2).put (16 + t) _).congr fun j hj => ?_, (hR1.drewN nq2).far _ _ (by show rb ≠ wb; omega), (hfr1.drewN nq2).setCell _ _ (.inl hbw)⟩, by simp [intOf]; omega⟩
          obtain ⟨hx0, hx1, hx9, hx14⟩ := HX.out
          have e := wordsF_grow (sch1 (strF s) t) (ext (sch1 (strF s) t)) j
          rw [HL.out, ext_is _ _ HL.out, hx0, hx1, hx9, hx14] at e
          rw [e, ← hx0, ← hx1, ← hx9, ← hx14, ← ext_is _ _ HL.out]
          rfl
        · have h48 : t = 48 := by omega
          subst h48
          go_wp2_with (first
            | (refine wpList_load_has hw1 rfl 86 _ rfl 0 64 _ rfl Tryd.underlying86 rfl rfl (by omega) (fun j _ => by rw [Nat.zero_add]) ?_)
            | (refine wpList_store_has hR1 rfl 86 _ _ rfl 0 64 _ rfl rfl (by omega) rfl (fun _ _ => rfl) ?_; intro w9 hR9 hF9))
          have hR10 := hR9.congr (g := wordsF (sch1 (strF s) 48)) fun j hj => by rw [if_pos (by omega), Nat.sub_zero]
          exact bodyPost_ret (results_has rfl _ rfl hR10 Tryd.underlying86 rfl rfl) rfl ⟨rfl, hfr1.then1 hF9 (.inl (Nat.le_of_eq HRB.out.symm))⟩

end Go.Proofs.YtldiecblcnoleaaDoor.Sha
