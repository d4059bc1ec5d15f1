/- Contracts of sha's Sum and Of. Conditions: what was written; the parts can be read. -/
import Derived.Test.YtldiecblcnoleaaDoorShaWrite
namespace Go.Proofs.YtldiecblcnoleaaDoor.Sha
open Go.RowKit Go.Proofs.YtldiecblcnoleaaDoor.Mem
set_option linter.unusedVariables false
set_option linter.unusedSimpArgs false

/-- Bytes in memory, zeros behind them. -/
def bytesF (l : List UInt8) (i : Nat) : Value := encB (l.getD i 0)

theorem bytesF_grow (l : List UInt8) (y : UInt8) (j : Nat) : (if j = l.length then .int .u8 (y.toNat : Int) else bytesF l j) = bytesF (l ++ [y]) j := by
  unfold bytesF
  by_cases h : j = l.length
  · subst h; simp [encB]
  · rw [if_neg h]
    rcases Nat.lt_or_gt_of_ne h with h | h
    · simp [List.getElem?_append_left h]
    · rw [List.getD_eq_getElem?_getD, List.getD_eq_getElem?_getD, List.getElem?_eq_none (by omega), List.getElem?_eq_none (by simp; omega)]

theorem agg5 {w : World} : (isAgg 80).run Tryd.prog w = .ok false w := by kernel_rfl
theorem sz32 {w : World} : (sizeOf 80).run Tryd.prog w = .ok 1 w := by kernel_rfl

def strB (l : List UInt8) : ByteArray := ⟨l.toArray⟩

theorem size_byte (n i : Nat) (hi : i < 8) : IntKind.u64.wrap (((n % 18446744073709551616 : Nat) : Int) * 8) / 2 ^ (56 - 8 * i) % 256 = ((UInt8.ofNat (8 * n / 256 ^ (7 - i))).toNat : Int) := by
  have hw : ∀ x : Int, IntKind.u64.wrap x = x % 18446744073709551616 := fun _ => rfl
  rw [byte_of, hw]
  match i, hi with
  | 0, _ => simp only [Nat.mul_zero, Nat.sub_zero, Nat.reducePow, Int.reducePow]; omega
  | 1, _ => simp only [Nat.reduceMul, Nat.reduceSub, Nat.reducePow, Int.reducePow]; omega
  | 2, _ => simp only [Nat.reduceMul, Nat.reduceSub, Nat.reducePow, Int.reducePow]; omega
  | 3, _ => simp only [Nat.reduceMul, Nat.reduceSub, Nat.reducePow, Int.reducePow]; omega
  | 4, _ => simp only [Nat.reduceMul, Nat.reduceSub, Nat.reducePow, Int.reducePow]; omega
  | 5, _ => simp only [Nat.reduceMul, Nat.reduceSub, Nat.reducePow, Int.reducePow]; omega
  | 6, _ => simp only [Nat.reduceMul, Nat.reduceSub, Nat.reducePow, Int.reducePow]; omega
  | 7, _ => simp only [Nat.reduceMul, Nat.reduceSub, Nat.reducePow, Int.reducePow]; omega

theorem word_byte (x : W32) (j : Nat) (hj : j < 4) : ((x.toNat : Int) / 2 ^ (24 - 8 * j)) % 256 = (((wordBytes x).getD j 0).toNat : Int) := by
  unfold wordBytes
  rw [big_get _ _ _ hj, byte_of]
  match j, hj with
  | 0, _ => simp only [Nat.mul_zero, Nat.sub_zero, Nat.reducePow, Int.reducePow, Nat.reduceSub]; omega
  | 1, _ => simp only [Nat.reduceMul, Nat.reduceSub, Nat.reducePow, Int.reducePow]; omega
  | 2, _ => simp only [Nat.reduceMul, Nat.reduceSub, Nat.reducePow, Int.reducePow]; omega
  | 3, _ => simp only [Nat.reduceMul, Nat.reduceSub, Nat.reducePow, Int.reducePow, Nat.sub_self, Nat.pow_zero]; omega

theorem alloc_hash (w : World) : (Instr.alloc 85 true (.tuple #[])).run Tryd.prog w = .ok (.pointer (some ⟨w.heap.size, 0, none⟩)) (w.alloc (.cells (cellsF 74 (hashF ⟨0, 0, 0, 0, 0, 0, 0, 0⟩ (fun _ => 0) 0 0)).toArray 85)) := by kernel_rfl
theorem alloc_tail (w : World) : (Instr.alloc 90 true (.tuple #[])).run Tryd.prog w = .ok (.pointer (some ⟨w.heap.size, 0, none⟩)) (w.alloc (.cells (cellsF 72 (bytesF [])).toArray 90)) := by kernel_rfl
theorem alloc_out (w : World) : (Instr.alloc 91 true (.tuple #[])).run Tryd.prog w = .ok (.pointer (some ⟨w.heap.size, 0, none⟩)) (w.alloc (.cells (cellsF 32 (bytesF [])).toArray 91)) := by kernel_rfl

theorem hashF_one (s : S8) (b : Nat → UInt8) (fill size : Int) (i : Nat) : (hashF s b fill size i).oneCell' = true := by
  unfold hashF
  split
  · rfl
  · split
    · rfl
    · split <;> rfl

set_option maxRecDepth 100000 in
set_option maxHeartbeats 1000000 in
theorem sum_calls (g : Nat) (m : List UInt8) (w : World) (hH : Hashed w g m ((m.length % 18446744073709551616 : Nat) : Int)) :
    Calls Tryd.prog 17 #[.pointer (some ⟨g, 0, none⟩)] w fun e w' => e = .returned (.string (strB (sha m))) ∧ Fr Nil w w' := by
  obtain ⟨b, hH, hb⟩ := hH
  have hglt := hH.lt
  have hpad := padLen_pos m.length
  obtain ⟨N, hNe⟩ : ∃ N, padLen m.length = N := ⟨_, rfl⟩
  rw [hNe] at hpad
  obtain ⟨F, hFe⟩ : ∃ F, m.length % 64 = F := ⟨_, rfl⟩
  obtain ⟨L, hLe⟩ : ∃ L, m.length % 18446744073709551616 = L := ⟨_, rfl⟩
  rw [hFe] at hH
  rw [hLe] at hH
  have hF64 : F < 64 := by omega
  have hN : (64 : Int) - ((F : Int) + 8) % 64 = (N : Int) := by rw [← hNe]; unfold padLen; omega
  have HNE := Lib.hid hNe
  have HFE := Lib.hid hFe
  have HLE := Lib.hid hLe
  have Hb := Lib.hid hb
  have HP := Lib.hid hpad.2.2
  have hN1 := hpad.1
  have hN2 := hpad.2.1
  clear hNe hFe hLe hb hpad
  go_enter Tryd.func17, Tryd.ntmps17
  go_wp2_with (first
    | (refine wpList_load_has hH rfl 85 _ rfl 0 74 _ rfl Tryd.underlying85 rfl rfl (by omega) (fun j _ => by rw [Nat.zero_add]) ?_)
    | (refine wpList_alloc rfl 85 rfl 74 85 _ (alloc_hash _) ?_; intro w2 hA hFA hsz; refine wpList_store_has hA rfl 85 _ _ rfl 0 74 _ rfl rfl (by omega) rfl (fun _ _ => hashF_one _ _ _ _ _) ?_; intro w3 hG hF3)
    | (refine wpList_alloc rfl 90 rfl 72 90 _ (alloc_tail _) ?_; intro w4 hT hF4 hsz4; have hfr4 := hT.free 0; have hc4 := hT.cell 0 (by omega); have hF := (hFA.then1 hF3 (.inl (Nat.le_refl _))).then0 hF4; have hg4 := hF.has hH (fun h => h); have h72 : w4.cell? ⟨g, 72, none⟩ = some (.int .i64 F) := hg4.cell 72 (by omega)))
  have hlt3 : w.heap.size < w3.heap.size := by have := hF3.size; omega
  have hG4 := (hF4.has hG (fun h => h)).congr (g := hashF (stateOf m) b (F : Int) (L : Int)) fun j hj => by rw [if_pos (by omega)]; rfl
  obtain ⟨tb, htb⟩ : ∃ tb, tb = w3.heap.size := ⟨_, rfl⟩
  obtain ⟨gg, hgg⟩ : ∃ gg, gg = w.heap.size := ⟨_, rfl⟩
  rw [← htb] at hT hlt3 ⊢
  rw [← hgg] at hG4 hlt3 ⊢
  have hT5 := (hT.put 0 (.int .u8 128)).congr (g := bytesF (tailP m.length 0)) fun j hj => by
    unfold bytesF
    rw [tailP_zero]
    cases j with
    | zero => rfl
    | succ j => rfl
  have hG5 := hG4.far ⟨tb, 0, none⟩ (.int .u8 128) (by show gg ≠ tb; omega)
  have hF5 := hF.setCell ⟨tb, 0, none⟩ (.int .u8 128) (.inl (by show w.heap.size ≤ tb; omega))
  generalize w4.setCell ⟨tb, 0, none⟩ (.int .u8 128) = w5 at *
  have HGG := Lib.hid hgg
  have htg : w.heap.size ≤ tb := by omega
  clear h72 hg4 hc4 hfr4 hsz4 hF4 hF3 hG hsz hFA hA hF hG4 hT htb hgg hN
  go_loopw [22] (fun v22 wr => ∃ i : Nat, i ≤ 8 ∧ v22 = .int .i64 i ∧ Has wr tb 72 90 (bytesF (tailP m.length i)) ∧ Has wr gg 74 85 (hashF (stateOf m) b (F : Int) (L : Int)) ∧ Fr Nil w wr) (fun v _ => 8 - (intOf v).toNat)
  case atStart => exact ⟨0, Nat.zero_le _, rfl, hT5, hG5, hF5⟩
  case round =>
    clear hT5 hG5 hF5
    obtain ⟨i, hi, rfl, hT, hG, hF⟩ := hrel
    by_cases hlt : i < 8
    · have hgx := hF.has hH (fun h => h)
      have h73 : wr.cell? ⟨g, 73, none⟩ = some (.int .u64 L) := hgx.cell 73 (by omega)
      have hc := hT.cell (N + i) (by omega)
      have hf := hT.free (N + i)
      go_wp2
      rw [← HLE.out, size_byte _ _ hlt]
      have hne : gg ≠ tb := by omega
      refine ⟨⟨i + 1, by omega, by go_num, (hT.put (N + i) _).congr fun j hj => ?_, ?_, hF.setCell _ _ (.inl htg)⟩, by simp [intOf]; omega⟩
      · rw [tailP_succ _ _ hlt, ← bytesF_grow, tailP_length _ _ hi, HNE.out]
      · rw [HLE.out]
        exact hG.far _ _ hne
    · have h8 : i = 8 := by omega
      subst h8
      have hlen := tailP_length m.length 8 (Nat.le_refl _)
      rw [HNE.out] at hlen
      have hsl := slice_arr_h Tryd.underlying90 wr sz5 tb 0 (N + 8) (by omega) (by omega)
      have hcv := conv_bytes (P := Tryd.prog) Tryd.underlying30 Tryd.underlying5 Tryd.underlying9 hT 0 72 (N + 8) (tailP m.length 8) hlen (by omega) (fun j hj => by rw [Nat.zero_add]; rfl)
      simp only [Int.natCast_add, Int.cast_ofNat_Int] at hsl
      have HLEN := Lib.hid hlen
      clear hlen
      generalize hts : (⟨(tailP m.length 8).toArray⟩ : ByteArray) = ts at hcv
      have HTS := Lib.hid hts
      clear hts
      have hts2 : ts.data.toList = pad m.length := by rw [← HTS.out, tailP_all]
      have htsz : ts.size ≤ 9223372036854775807 := by rw [Lib.size_eq, hts2, pad_length, HNE.out]; omega
      have HT2 := Lib.hid hts2
      clear hts2
      go_wp2_with fail
      refine (write_calls gg m (L : Int) ts wr htsz ⟨b, by rw [HFE.out]; exact hG, Hb.out⟩).mono ?_
      rintro e w6 ⟨rfl, ⟨b6, hG6, hb6⟩, hF6⟩
      rw [HT2.out] at hG6 hb6
      have hFx := hF.then1 hF6 (.inl (by rw [HGG.out]; exact Nat.le_refl _))
      have hfull : (m ++ pad m.length).length % 64 = 0 := by rw [List.length_append, pad_length, HNE.out]; have := HP.out; omega
      obtain ⟨S, hS⟩ : ∃ S, stateOf (m ++ pad m.length) = S := ⟨_, rfl⟩
      rw [hS] at hG6
      have HS := Lib.hid hS
      clear hS hT hG hF hsl hcv hF6 hb6 hfull
      go_wp2_with (first
        | (refine wpList_alloc rfl 91 rfl 32 91 _ (alloc_out _) ?_; intro w7 hO hF7 hsz7; have hG7 := hF7.has hG6 (fun h => h); have hFy := hFx.then0 hF7)
        | (refine wpList_load_has hG7 rfl 81 _ rfl 0 8 (fun i => .int .u32 ((S.get i).toNat : Int)) rfl Tryd.underlying81 rfl rfl (by omega) (fun j hj => by rw [Nat.zero_add]; unfold hashF; rw [if_pos hj]; rfl) ?_))
      have hob : w.heap.size ≤ w6.heap.size := hFx.size
      obtain ⟨ob, hobe⟩ : ∃ ob, ob = w6.heap.size := ⟨_, rfl⟩
      rw [← hobe] at hO hob ⊢
      clear hobe hG6 hG7 hF7 hsz7 hFx
      go_loopw [47] (fun v47 wr => ∃ i : Nat, i ≤ 8 ∧ v47 = .int .i64 i ∧ Has wr ob 32 91 (bytesF (outP S i)) ∧ Fr Nil w wr) (fun v _ => 8 - (intOf v).toNat)
      case atStart => exact ⟨0, Nat.zero_le _, rfl, hO, hFy⟩
      case round =>
        clear hO hFy
        obtain ⟨i, hi, rfl, hO, hFy⟩ := hrel
        obtain ⟨wo, rfl⟩ : ∃ wo : World, wo = wr := ⟨_, rfl⟩
        by_cases hli : i < 8
        · have hix := index_agg (P := Tryd.prog) Tryd.underlying81 wo sz32 agg5 (fun i => .int .u32 ((S.get i).toNat : Int)) i hli
          have hol := outP_length S i
          have HOL := Lib.hid hol
          clear hol
          go_wp2
          go_loopw [51] (fun v51 wi => ∃ j : Nat, j ≤ 4 ∧ v51 = .int .i64 j ∧ Has wi ob 32 91 (bytesF (outP S i ++ (wordBytes (S.get i)).take j)) ∧ Fr Nil w wi) (fun v _ => 4 - (intOf v).toNat)
          case atStart => exact ⟨0, Nat.zero_le _, rfl, by simpa using hO, hFy⟩
          case round =>
            obtain ⟨j, hj, rfl, hO1, hF1⟩ := hrel
            by_cases hlj : j < 4
            · have hc := hO1.cell (4 * i + j) (by omega)
              have hf := hO1.free (4 * i + j)
              go_wp2
              rw [word_byte _ _ hlj]
              refine ⟨⟨j + 1, by omega, by go_num, (hO1.put (4 * i + j) _).congr fun k hk => ?_, hF1.setCell _ _ (.inl hob)⟩, by simp [intOf]; omega⟩
              rw [take_get _ _ (by unfold wordBytes; rw [big_length]; exact hlj), ← List.append_assoc, ← bytesF_grow, List.length_append, HOL.out, List.length_take]
              have e4 : (wordBytes (S.get i)).length = 4 := big_length _ _
              rw [e4, Nat.min_eq_left (by omega)]
            · have h4 : j = 4 := by omega
              subst h4
              go_wp2
              go_roundw
              case rel =>
                refine ⟨i + 1, by omega, by go_num, ?_, hF1⟩
                have e4 : (wordBytes (S.get i)).take 4 = wordBytes (S.get i) := List.take_of_length_le (by unfold wordBytes; rw [big_length]; exact Nat.le_refl _)
                rw [e4] at hO1
                exact hO1
              case measure => simp [intOf]; omega
        · have h8 : i = 8 := by omega
          subst h8
          have hsl := slice_arr_h Tryd.underlying91 wo sz5 ob 0 32 (by omega) (by omega)
          have hlen : (outP S 8).length = 32 := outP_length S 8
          have hcv := conv_bytes (P := Tryd.prog) Tryd.underlying30 Tryd.underlying5 Tryd.underlying9 hO 0 32 32 (outP S 8) hlen (by omega) (fun j hj => by rw [Nat.zero_add]; rfl)
          clear hlen hsl
          go_wp2
          go_ret
          refine ⟨?_, hFy⟩
          show Ending.returned (.string ⟨(outP S 8).toArray⟩) = _
          rw [outP_all, ← HS.out]
          rfl

end Go.Proofs.YtldiecblcnoleaaDoor.Sha
