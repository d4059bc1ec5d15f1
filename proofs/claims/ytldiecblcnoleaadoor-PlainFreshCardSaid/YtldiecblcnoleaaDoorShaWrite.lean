/- Contracts of sha's rounds, New, Write. Conditions: where a Hash lies in memory, what was written to it. -/
import Derived.Test.YtldiecblcnoleaaDoorShaBlock
import Derived.Test.YtldiecblcnoleaaDoorShaMsg
namespace Go.Proofs.YtldiecblcnoleaaDoor.Sha
open Go.RowKit Go.Proofs.YtldiecblcnoleaaDoor.Mem
set_option linter.unusedVariables false
set_option linter.unusedSimpArgs false

theorem wordsF_one (l : List W32) (n : Nat) : ∀ v ∈ cellsF n (wordsF l), v.oneCell' = true := cellsF_one fun _ _ => rfl

set_option maxRecDepth 100000 in
theorem rounds_calls (w : World) : Calls Tryd.prog 64 #[] w fun e w' => e = .returned (aggF 64 (wordsF roundKs)) ∧ Fr Nil w w' := by
  go_enter Tryd.func64, Tryd.ntmps64
  iterate 9 go_step
  apply wp_seq_k
  intro _ _
  apply wp_region_lit
  refine wpList_val rfl (aggF 64 (wordsF roundKs)) (by kernel_rfl) ?_
  have hm : Has (w.alloc (.cells (Array.replicate 64 (.int .u32 0)) 86)) w.heap.size 64 86 (wordsF []) := Has.new _ _ _ _ _ rfl zeros_cells
  refine wpList_store_mid rfl 86 _ _ rfl w.heap.size 0 (cellsF 64 (wordsF roundKs)).toArray rfl rfl (hm.there 0 64 (Nat.le_refl _)) rfl (all_oneCell_toArray (wordsF_one _ _)) ?_
  refine wpList_nil ?_
  go_step
  go_step
  go_step
  have hm2 := (hm.putF 0 64 (wordsF roundKs)).congr (g := wordsF roundKs) fun j hj => by rw [if_pos (by omega), Nat.sub_zero]
  exact bodyPost_ret (results_has rfl _ rfl hm2 Tryd.underlying86 rfl rfl) rfl ⟨rfl, Fr.setCells _ (.inl (Nat.le_refl _)) _ _ ((Fr.refl _ _).alloc _)⟩

theorem new_cells : ((((((((Tryd.zeroCells85.setIfInBounds 0 (Value.int IntKind.u32 1779033703)).setIfInBounds 1 (Value.int IntKind.u32 3144134277)).setIfInBounds 2 (Value.int IntKind.u32 1013904242)).setIfInBounds 3
    (Value.int IntKind.u32 2773480762)).setIfInBounds 4 (Value.int IntKind.u32 1359893119)).setIfInBounds 5 (Value.int IntKind.u32 2600822924)).setIfInBounds 6 (Value.int IntKind.u32 528734635)).setIfInBounds 7 (Value.int IntKind.u32 1541459225))
    = (cellsF 74 (hashF start (fun _ => 0) 0 0)).toArray := by kernel_rfl

set_option maxRecDepth 100000 in
theorem new_calls (w : World) : Calls Tryd.prog 15 #[] w fun e w' => e = .returned (.pointer (some ⟨w.heap.size, 0, none⟩)) ∧ Has w' w.heap.size 74 85 (hashF start (fun _ => 0) 0 0) ∧ Fr Nil w w' := by
  go_enter Tryd.func15, Tryd.ntmps15
  go_wp2
  go_ret
  refine ⟨rfl, Has.new _ _ _ _ _ rfl ?_, (Fr.refl _ _).alloc _⟩
  rw [new_cells]
  intro i hi
  simp only [List.getElem?_toArray]
  exact cellsF_get _ _ _ hi

theorem put_bytes {w : World} {g : Nat} {s : S8} {b : Nat → UInt8} {fill size : Int} (h : Has w g 74 85 (hashF s b fill size)) (F n : Nat) (l : List UInt8) (hn : n ≤ l.length) (hF : F + n ≤ 64) :
    Has (w.setCells g (8 + F) ((l.take n).map fun x => Value.int .u8 (x.toNat : Int))) g 74 85 (hashF s (putB b F n l) fill size) := by
  refine (h.putCells _ (8 + F)).congr fun j hj => ?_
  by_cases h1 : 8 + F ≤ j
  · rw [if_pos h1]
    by_cases h2 : j < 8 + F + n
    · have e : ((l.take n).map fun x => Value.int .u8 (x.toNat : Int)).getD (j - (8 + F)) (hashF s b fill size j) = .int .u8 ((l.getD (j - 8 - F) 0).toNat : Int) := by
        have hlt : j - (8 + F) < l.length := by omega
        simp [List.getElem?_take, show j - (8 + F) < n from by omega, show j - 8 - F = j - (8 + F) from by omega, hlt]
      rw [e]
      unfold hashF putB
      rw [if_neg (by omega), if_pos (by omega), if_pos ⟨by omega, by omega⟩]
      rfl
    · rw [List.getD_eq_getElem?_getD, List.getElem?_eq_none (by simp; omega)]
      have h8 : ¬ j < 8 := by omega
      unfold hashF putB
      simp only [Option.getD_none, h8, if_false]
      by_cases h3 : j < 72
      · rw [if_pos h3, if_pos h3, if_neg (by omega)]
      · rw [if_neg h3, if_neg h3]
  · rw [if_neg h1]
    unfold hashF putB
    by_cases h3 : j < 8
    · rw [if_pos h3, if_pos h3]
    · rw [if_neg h3, if_neg h3, if_pos (by omega), if_pos (by omega), if_neg (by omega)]

theorem put_fill {w : World} {g : Nat} {s : S8} {b : Nat → UInt8} {fill size : Int} (h : Has w g 74 85 (hashF s b fill size)) (x : Int) :
    Has (w.setCell ⟨g, 72, none⟩ (.int .i64 x)) g 74 85 (hashF s b x size) := by
  refine (h.put 72 _).congr fun j hj => ?_
  unfold hashF
  by_cases h1 : j = 72
  · subst h1; rfl
  · rw [if_neg h1]
    by_cases h2 : j < 8
    · rw [if_pos h2, if_pos h2]
    · rw [if_neg h2, if_neg h2]
      by_cases h3 : j < 72
      · rw [if_pos h3, if_pos h3]
      · rw [if_neg h3, if_neg h3, if_neg h1, if_neg h1]

/-- A Hash in memory behind a message m; its count of bytes is size. -/
def Hashed (w : World) (g : Nat) (m : List UInt8) (size : Int) : Prop :=
  ∃ b : Nat → UInt8, Has w g 74 85 (hashF (stateOf m) b ((m.length % 64 : Nat) : Int) size) ∧ ∀ i, i < m.length % 64 → b i = blk m (m.length / 64) i

set_option maxRecDepth 100000 in
set_option maxHeartbeats 1000000 in
theorem write_calls (g : Nat) (m : List UInt8) (size : Int) (s : ByteArray) (w : World) (hs : s.size ≤ 9223372036854775807) (hH : Hashed w g m size) :
    Calls Tryd.prog 16 #[.pointer (some ⟨g, 0, none⟩), .string s] w fun e w' => e = .returned (.tuple #[]) ∧
      Hashed w' g (m ++ s.data.toList) (IntKind.u64.wrap (size + s.size)) ∧ Fr (· = g) w w' := by
  obtain ⟨b, hH, hb⟩ := hH
  have hglt := hH.lt
  have hc73 : w.cell? ⟨g, 73, none⟩ = some (.int .u64 size) := hH.cell 73 (by omega)
  go_enter Tryd.func16, Tryd.ntmps16
  go_wp2_with fail
  refine (rounds_calls _).mono ?_
  rintro e w1 ⟨rfl, hF1⟩
  have hH1 := hF1.has hH (fun h => h)
  dsimp only
  go_step
  refine wpList_new rfl 64 86 (wordsF []) (by kernel_rfl) ?_
  intro w2 hA hFA hsz
  refine wpList_store_has hA rfl 86 _ _ rfl 0 64 (wordsF roundKs) rfl rfl (by omega) rfl (fun _ _ => rfl) ?_
  intro w3 hK0 hF3
  have hK := hK0.congr (g := wordsF roundKs) fun j hj => by rw [if_pos (by omega), Nat.sub_zero]
  have hF := (hF1.then0 hFA).then1 hF3 (.inl hF1.size)
  have hH3 := hF.has hH (fun h => h)
  clear hK0 hF3 hFA hA hH1 hc73
  obtain ⟨gk, hgk⟩ : ∃ gk, gk = w1.heap.size := ⟨_, rfl⟩
  have hgg : w.heap.size ≤ gk := by have := hF1.size; omega
  rw [← hgk] at hK ⊢
  clear hgk hsz hF1
  have hc73 : w3.cell? ⟨g, 73, none⟩ = some (.int .u64 size) := hH3.cell 73 (by omega)
  have hf73 := hH3.free 73
  go_wp2
  have hHs := (hH3.put 73 (.int .u64 (IntKind.u64.wrap (size + s.size)))).congr (g := hashF (stateOf m) b ((m.length % 64 : Nat) : Int) (IntKind.u64.wrap (size + s.size))) fun j hj => by
    unfold hashF
    by_cases e : j = 73
    · subst e; rfl
    · rw [if_neg e]
      by_cases e1 : j < 8
      · rw [if_pos e1, if_pos e1]
      · rw [if_neg e1, if_neg e1]
        by_cases e2 : j < 72
        · rw [if_pos e2, if_pos e2]
        · rw [if_neg e2, if_neg e2, if_pos (by omega), if_pos (by omega)]
  have hKs := hK.far ⟨g, 73, none⟩ (.int .u64 (IntKind.u64.wrap (size + s.size))) (by show gk ≠ g; omega)
  have hFs : Fr (· = g) w _ := hF.nil.setCell ⟨g, 73, none⟩ (.int .u64 (IntKind.u64.wrap (size + s.size))) (.inr rfl)
  have hHH : Hashed _ g m (IntKind.u64.wrap (size + s.size)) := ⟨b, hHs, hb⟩
  generalize hszq : IntKind.u64.wrap (size + s.size) = sz at *
  have HQ := Lib.hid hszq
  clear hszq
  generalize hw4 : w3.setCell ⟨g, 73, none⟩ (.int .u64 sz) = w4 at *
  clear hw4 hHs hF hH3 hK hc73 hf73 hH hb
  go_loopw [1] (fun v1 wr => ∃ (k : Nat) (r : ByteArray), k ≤ s.size ∧ v1 = .string r ∧ Hid (r.data.toList = s.data.toList.drop k) ∧ Hashed wr g (m ++ s.data.toList.take k) sz ∧ Has wr gk 64 86 (wordsF roundKs) ∧ Fr (· = g) w wr) (fun v _ => strLen v)
  case atStart => exact ⟨0, s, Nat.zero_le _, rfl, rfl, by simpa using hHH, hKs, hFs⟩
  case round =>
    clear hHH hKs hFs
    obtain ⟨k, r, hk, rfl, HR, ⟨b, hH, hb⟩, hK, hF⟩ := hrel
    obtain ⟨M, hM⟩ : ∃ M, m ++ s.data.toList.take k = M := ⟨_, rfl⟩
    rw [hM] at hH hb
    obtain ⟨F, hFe⟩ : ∃ F, M.length % 64 = F := ⟨_, rfl⟩
    rw [hFe] at hH
    have hF64 : F < 64 := by omega
    have hrs : r.data.toList.length = r.size := (Lib.size_eq r).symm
    have hss : s.data.toList.length = s.size := (Lib.size_eq s).symm
    have hrk : r.size = s.size - k := by rw [← hrs, HR.out, List.length_drop, hss]
    have HM := Lib.hid hM
    have HFe := Lib.hid hFe
    have Hb := Lib.hid hb
    have HRS := Lib.hid hrs
    have HRK := Lib.hid hrk
    clear hM hFe hb hrs hss hrk
    by_cases h0 : 0 < r.size
    · obtain ⟨n, hn⟩ : ∃ n, n = min r.size (64 - F) := ⟨_, rfl⟩
      have hn1 : 1 ≤ n := by omega
      have hnr : n ≤ r.size := by omega
      have hnF : F + n ≤ 64 := by omega
      have HN := Lib.hid hn
      clear hn
      have hsl := fun w => slice_arr_l Tryd.underlying83 w sz5 g 8 F hF64
      have h72 : wr.cell? ⟨g, 72, none⟩ = some (.int .i64 F) := hH.cell 72 (by omega)
      go_wp2
      refine QTail.region (fun w' => ∃ k, w' = wr.drewN k) 9 (by kernel_rfl) (by kernel_rfl) ⟨1, rfl⟩ ?_
      simp only [List.take_succ_cons, List.take_zero, List.drop_succ_cons, List.drop_zero]
      repeat (first | go_big_quiet_step (fail) | quiet_step (fail))
      refine wpQuiet_nil ?_
      rintro _ ⟨nq, rfl⟩
      refine wpList_copy rfl _ _ 30 9 rfl _ _ rfl rfl (run_copy_str _ _ _ _ 5 g (8 + F) _ _ r Tryd.underlying30 (fun _ => sz5) n HN.out ((hH.drewN nq).there _ _ (by omega))) ?_
      have hH2 := put_bytes (hH.drewN nq) F n r.data.toList (by rw [HRS.out]; exact hnr) hnF
      have hK2 := Has.farCells (c := g) (by omega) ((r.data.toList.take n).map fun x => Value.int .u8 (x.toNat : Int)) (8 + F) (hK.drewN nq)
      have hF2 := Fr.setCells (S := (· = g)) g (.inr rfl) ((r.data.toList.take n).map fun x => Value.int .u8 (x.toNat : Int)) (8 + F) (hF.drewN nq)
      have hHb := putB_blk Hb.out n r.data.toList (by rw [HRS.out]; exact hnr)
      rw [HFe.out] at hHb
      generalize hwx : (wr.drewN nq).setCells g (8 + F) ((r.data.toList.take n).map fun x => Value.int .u8 (x.toNat : Int)) = wx at *
      generalize putB b F n r.data.toList = b2 at *
      have HHB := Lib.hid hHb
      clear hwx hHb h72 hH hK hF hsl Hb
      have h72 : wx.cell? ⟨g, 72, none⟩ = some (.int .i64 F) := hH2.cell 72 (by omega)
      have f72 := hH2.free 72
      have hmore : m ++ s.data.toList.take (k + n) = M ++ r.data.toList.take n := by rw [← HM.out, HR.out, List.take_add, List.append_assoc]
      have hdrop : (r.extract n r.size).data.toList = s.data.toList.drop (k + n) := by
        rw [extract_end, HR.out, List.drop_drop]
      have hkn : k + n ≤ s.size := by have := HRK.out; omega
      have hcl : (r.data.toList.take n).length = n := by rw [List.length_take, HRS.out]; omega
      have hsz : (r.extract n r.size).size < r.size := by rw [ByteArray.size_extract]; omega
      have HMO := Lib.hid hmore
      have HDR := Lib.hid hdrop
      have HCL := Lib.hid hcl
      have HSZ := Lib.hid hsz
      clear hmore hdrop hcl hsz
      go_wp2_with fail
      · have e64 : F + n = 64 := by
          have h := ‹((F : Int) + (n : Int) == 64) = true›
          simp at h
          omega
        have HE := Lib.hid e64
        clear e64
        refine (turn_calls g gk (stateOf M) b2 _ sz _ (by omega) (put_fill hH2 _) (hK2.far _ _ (by show gk ≠ g; omega))).mono ?_
        rintro e w5 ⟨rfl, hH5, hF5⟩
        have hK5 := hF5.has (hK2.far ⟨g, 72, none⟩ (.int .i64 ((F : Int) + (n : Int))) (by show gk ≠ g; omega)) (by omega)
        have hF6 := (hF2.setCell ⟨g, 72, none⟩ (.int .i64 ((F : Int) + (n : Int))) (.inr rfl)).trans hF5
        go_wp2
        refine ⟨⟨k + n, _, hkn, rfl, HDR.out, ?_, hK5, hF6⟩, HSZ.out⟩
        rw [HMO.out]
        have hl := state_fills M (r.data.toList.take n) (by rw [HFe.out, HCL.out, HE.out])
        refine ⟨b2, ?_, fun i hi => by omega⟩
        rw [hl.1, hl.2.1, squeeze_congr _ (fun i hi => (HHB.out i (by rw [HE.out]; exact hi)).symm)]
        exact hH5
      · have e64 : F + n < 64 := by
          have h := ‹((F : Int) + (n : Int) == 64) = false›
          simp at h
          omega
        refine ⟨⟨k + n, _, hkn, rfl, HDR.out, ?_, hK2.far _ _ (by show gk ≠ g; omega), hF2.setCell _ _ (.inr rfl)⟩, HSZ.out⟩
        rw [HMO.out]
        have hl := state_less M (r.data.toList.take n) (by rw [HFe.out, HCL.out]; exact e64)
        refine ⟨b2, ?_, fun i hi => ?_⟩
        · rw [hl.1, hl.2.1, HFe.out, HCL.out, Int.natCast_add]
          exact put_fill hH2 _
        · rw [hl.2.1, HFe.out, HCL.out] at hi
          rw [hl.2.2]
          exact HHB.out i hi
    · go_wp2
      go_end0
      have hks : k = s.size := by have := HRK.out; omega
      have hMs : M = m ++ s.data.toList := by rw [← HM.out, hks, List.take_of_length_le (by rw [← Lib.size_eq]; exact Nat.le_refl _)]
      refine ⟨rfl, ⟨b, ?_, ?_⟩, hF⟩
      · rw [← hMs, HFe.out, HQ.out]; exact hH
      · rw [← hMs]; exact Hb.out

end Go.Proofs.YtldiecblcnoleaaDoor.Sha
