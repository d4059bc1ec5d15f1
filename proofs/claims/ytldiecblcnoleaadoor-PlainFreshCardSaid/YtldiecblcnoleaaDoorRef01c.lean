/- The reference's SHA-256: the contract of Of. Conditions: its tables hold what the row lists; the parts can be read, and have together fewer than 2^56 bytes. -/
import Derived.Test.YtldiecblcnoleaaDoorRef01b
import Derived.Test.YtldiecblcnoleaaDoorOwn
import Derived.Test.YtldiecblcnoleaaDoorQTail
namespace Go.Proofs.YtldiecblcnoleaaDoor.Sha
open Go.RowKit Go.Proofs.YtldiecblcnoleaaDoor.Mem
set_option linter.unusedVariables false
set_option linter.unusedSimpArgs false

theorem cat_mono (f : Nat → ByteArray) : ∀ (n i : Nat), i ≤ n → (cat f i).length ≤ (cat f n).length
  | 0, i, h => by rw [Nat.le_zero.1 h]; exact Nat.le_refl _
  | n + 1, i, h => by
    rcases Nat.lt_or_ge i (n + 1) with h1 | h1
    · refine Nat.le_trans (cat_mono f n i (by omega)) ?_
      simp [cat]
    · rw [Nat.le_antisymm h h1]; exact Nat.le_refl _

theorem stF_one (s : S8) (i : Nat) : (stF s i).oneCell' = true := rfl

theorem blk_of (al : ByteArray) (j i : Nat) (h : 64 * j + 64 ≤ al.size) (hi : i < 64) : strF (al.extract (64 * j) (64 * j + 64)) i = blk al.data.toList j i := by
  unfold strF blk
  rw [Lib.extract_data]
  simp only [List.getD_eq_getElem?_getD, List.getElem?_take, List.getElem?_drop]
  rw [if_pos (by omega)]

def endL (k : Nat) : List UInt8 := 128 :: List.replicate k 0

theorem endL_length (k : Nat) : (endL k).length = k + 1 := by simp [endL]

theorem endL_succ (k : Nat) : endL (k + 1) = endL k ++ [0] := by
  unfold endL
  rw [List.replicate_succ']
  rfl

theorem all_is (n : Nat) : endL (padLen n - 1) ++ big (8 * n) 8 = pad n := rfl

set_option maxRecDepth 100000 in
set_option maxHeartbeats 1000000 in
theorem refof_calls (A : Option Addr) (n cap : Nat) (f : Nat → ByteArray) (w : World) (hn : n ≤ 9223372036854775807) (hs : (cat f n).length ≤ 72057594037927936) (hA : SlAt w A n (fun i => .string (f i))) (hG : GL w) :
    Calls Tryd.prog 14 #[.slice A n cap] w fun e w' => e = .returned (.string (strB (sha (cat f n)))) ∧ Fr Nil w w' := by
  go_enter Tryd.func14, Tryd.ntmps14
  go_wp2
  go_loop [3, 4] (fun v3 v4 => ∃ (i : Nat) (t : ByteArray), i ≤ n ∧ v4 = .int .i64 i ∧ v3 = .string t ∧ Hid (t.data.toList = cat f i)) (fun _ v => n - (intOf v).toNat)
  case atStart => exact ⟨0, _, Nat.zero_le _, rfl, rfl, rfl⟩
  case round =>
    obtain ⟨i, t, hi, rfl, rfl, HT⟩ := hrel
    by_cases hlt : i < n
    · obtain ⟨b, o, rfl, hb, hc⟩ := hA.at (by omega)
      have hci := hc i hlt
      clear hc
      have hm := cat_mono f n (i + 1) hlt
      have hsz : t.size + (f i).size ≤ 9223372036854775807 := by
        rw [Lib.size_eq t, HT.out, Lib.size_eq (f i)]
        simp only [cat, List.length_append] at hm
        omega
      clear hm
      go_wp2
      refine ⟨⟨i + 1, _, by omega, by go_num, rfl, ?_⟩, by simp [intOf]; omega⟩
      show (t ++ f i).data.toList = cat f i ++ (f i).data.toList
      rw [ByteArray.data_append, Array.toList_append, HT.out]
    · have hin : i = n := by omega
      subst hin
      obtain ⟨L, hL⟩ : ∃ L, t.size = L := ⟨_, rfl⟩
      have hLc : (cat f i).length = L := by rw [← hL, Lib.size_eq, HT.out]
      have hL40 : L ≤ 72057594037927936 := by omega
      have hpad := padLen_pos L
      have HLC := Lib.hid hLc
      clear hLc
      go_wp2
      have hE0 : Has (w.alloc (.cells #[.int .u8 128] 5)) w.heap.size 1 5 (bytesF (endL 0)) := Has.new _ _ _ _ _ rfl (fun i hi => by obtain rfl : i = 0 := (by omega); rfl)
      have hO0 := hE0.own (B := w.heap.size) (n := 1) (size := 1) (cap := 1) (Nat.le_refl _) rfl (Nat.le_refl _) (by omega)
      have hF0 := Fr.alloc1 w (.cells #[.int .u8 128] 5)
      go_loopw [5] (fun v5 wr => ∃ k : Nat, k + 1 ≤ padLen L ∧ Own wr w.heap.size v5 5 1 (k + 1) (bytesF (endL k)) ∧ Fr Nil w wr) (fun v _ => 64 - sliceLen v)
      case atStart => exact ⟨0, hpad.1, hO0, hF0⟩
      case round =>
        clear hO0 hF0 hE0
        obtain ⟨k, hk, hO, hF⟩ := hrel
        have HO := Lib.hid hO
        rcases hO.open with ⟨_, h0⟩ | ⟨g, cap2, N, f', rfl, hg, hkc, hcm, hN, hH, hf'⟩
        · omega
        · clear hO
          have hBle := hF.size
          have hp2 : padLen L ≤ 64 := hpad.2.1
          by_cases hlt : k + 1 < padLen L
          · have hne : (((L : Int) + ((k : Int) + 1) + 8) % 64 == 0) = false := by
              rw [beq_eq_false_iff_ne]
              unfold padLen at hlt
              omega
            have hne2 : (((L : Int) + ((k : Int) + 1) + 8) % 64 != 0) = true := by
              rw [bne_iff_ne]
              unfold padLen at hlt
              omega
            have hFw := Fr.alloc1 wr (.cells #[.int .u8 0] 5)
            go_wp2_with (refine wpList_append rfl _ _ 30 rfl w.heap.size 5 1 1 (.int .u8 0) Tryd.underlying30 info_u8 rfl (by omega) (.slice (some ⟨g, 0, none⟩) (k + 1) cap2) (k + 1) (bytesF (endL k)) rfl (HO.out.fr0 (Fr.alloc1 _ _)) wr.heap.size 0 1 1 (fun _ => .int .u8 0) rfl (new_one _ _ _) (fun _ _ => rfl) (by omega) (by omega) (by have := hFw.size; omega) ?_; intro v' w' hO' hF' hnil')
            go_wp2
            have hF2 := (hF.then0 hFw).thenOwn (HO.out.fr0 hFw) (Nat.le_refl _) hF'
            have hO2 := hO'.congr (g := bytesF (endL (k + 1))) fun j hj => by
              unfold joinF
              rw [endL_succ, ← bytesF_grow, endL_length, Nat.mul_one]
              by_cases e : j < k + 1
              · rw [if_pos e, if_neg (by omega)]
              · rw [if_neg e, if_pos (by omega)]
                rfl
            rcases hO2.open with ⟨_, h0⟩ | ⟨g2, cap3, _, _, rfl, _⟩
            · omega
            · refine ⟨⟨k + 1, by omega, hO2, hF2⟩, ?_⟩
              show 64 - (k + 1 + 1) < 64 - (k + 1)
              omega
          · have hkp : k + 1 = padLen L := by omega
            have hne : (((L : Int) + ((k : Int) + 1) + 8) % 64 != 0) = false := by
              rw [bne_eq_false_iff_eq]
              unfold padLen at hkp
              omega
            have HKP := Lib.hid hkp
            clear hkp
            have hel := endL_length k
            have hcv : ∀ x : QTail.Later wr, (convert 30 9 (.slice (some ⟨g, 0, none⟩) (k + 1) cap2)).run Tryd.prog x.w = .ok (.string ⟨(endL k).toArray⟩) x.w := fun x =>
              conv_bytes (P := Tryd.prog) Tryd.underlying30 Tryd.underlying5 Tryd.underlying9 (x.fr.has hH (fun h => h)) 0 cap2 (k + 1) (endL k) hel (by omega) (fun j hj => by rw [Nat.zero_add, hf' j (by omega)]; rfl)
            obtain ⟨es, hes⟩ : ∃ es : ByteArray, (⟨(endL k).toArray⟩ : ByteArray) = es := ⟨_, rfl⟩
            rw [hes] at hcv
            have hesz : es.size = k + 1 := by rw [← hes]; exact hel
            have hesz2 : t.size + es.size ≤ 9223372036854775807 := by omega
            have HES := Lib.hid hes
            have HEZ := Lib.hid hesz
            clear hes hel hesz
            have hes8 : es.size ≤ 64 := by have := HEZ.out; omega
            have hsum1 : ¬ 9223372036854775807 < L + es.size := by omega
            obtain ⟨bs, hbs⟩ : ∃ bs : ByteArray, strB (big (8 * L) 8) = bs := ⟨_, rfl⟩
            have hbs8 : bs.size = 8 := by rw [← hbs]; exact big_length _ _
            have HBS8 := Lib.hid hbs8
            have hsum2 : ¬ 9223372036854775807 < L + es.size + bs.size := by omega
            have hbig : ∀ w', Calls Tryd.prog 62 #[.int .u64 (8 * (L : Int)), .int .i64 8] w' fun e w'' => e = .returned (.string bs) ∧ Fr Nil w' w'' := fun w' => by
              have h := big_calls (8 * L) 8 w' (by omega) (by omega)
              rw [hbs, Int.natCast_mul] at h
              exact h
            clear hbs8
            go_wp2
            refine QTail.quiet (QTail.In wr) (by kernel_rfl) (by kernel_rfl) (QTail.In.mk (Fr.refl _ _).drew) ?_
            repeat (first | go_big_quiet_step ((go_at_call 62; exact QTail.calls_later (hbig _))) | quiet_step ((go_at_call 62; exact QTail.calls_later (hbig _))))
            refine wpQuiet_nil ?_
            rintro _ ⟨x, rfl⟩
            have hFx := hF.then0 x.fr
            generalize x.w = wx at *
            obtain ⟨al, hal⟩ : ∃ al, t ++ es ++ bs = al := ⟨_, rfl⟩
            rw [hal]
            have halb : al.data.toList = cat f i ++ pad (cat f i).length := by
              rw [← hal, ByteArray.data_append, Array.toList_append, ByteArray.data_append, Array.toList_append, HT.out, HLC.out, ← all_is, ← HES.out, ← hbs, List.append_assoc, ← HKP.out]
              rfl
            obtain ⟨M, hM⟩ : ∃ M, cat f i ++ pad (cat f i).length = M := ⟨_, rfl⟩
            rw [hM] at halb
            obtain ⟨nb, hnb⟩ : ∃ nb, M.length = 64 * nb := ⟨M.length / 64, by
              rw [← hM, List.length_append, HLC.out, pad_length]
              have := hpad.2.2
              omega⟩
            have hals : al.size = 64 * nb := by rw [Lib.size_eq, halb, hnb]
            have hnb40 : nb ≤ 72057594037927936 := by
              have h : M.length = L + (padLen L + 8) := by rw [← hM, List.length_append, HLC.out, pad_length]
              omega
            have HM := Lib.hid hM
            have HAB := Lib.hid halb
            have HNB := Lib.hid hnb
            have HALS := Lib.hid hals
            have halsz : 64 * nb ≤ al.size := by omega
            have halsz2 : al.size ≤ 64 * nb := by omega
            have hGx := hG.fr0 hFx
            clear hal halb hM hnb hals hbig hsum1 hsum2 hbs hes8 hesz2 hcv hf' hH hN hcm hkc hg HO hF hBle hne hlt hk hL
            go_wp2_with (first
              | (refine wpList_load_cells rfl 81 _ rfl 0 0 8 (stF start) (fun j hj => by rw [Nat.zero_add]; exact hGx.first j hj) rfl Tryd.underlying81 rfl rfl ?_)
              | (refine wpList_alloc rfl 81 rfl 8 81 _ (alloc_state _) ?_; intro w6 hS0 hF6 hz6; refine wpList_store_has hS0 rfl 81 _ _ rfl 0 8 (stF start) rfl rfl (by omega) rfl (fun _ _ => rfl) ?_; intro w7 hS7 hF7))
            obtain ⟨sb, hsb⟩ : ∃ sb, sb = wx.heap.size := ⟨_, rfl⟩
            rw [← hsb] at hS0 hS7 hF7 hz6 ⊢
            have hsbl : w.heap.size ≤ sb := by have := hFx.size; omega
            have hF8 := (hFx.then0 hF6).then1 hF7 (.inl hsbl)
            have hS8 := hS7.congr (g := stF (full M 0)) fun j hj => by rw [if_pos (by omega), Nat.sub_zero]; rfl
            clear hS7 hF7 hF6 hS0 hz6 hsb
            go_loopw [8] (fun v8 wr => ∃ j : Nat, j ≤ nb ∧ v8 = .int .i64 (64 * (j : Int)) ∧ Has wr sb 8 81 (stF (full M j)) ∧ Fr Nil w wr) (fun v _ => 64 * nb - (intOf v).toNat)
            case atStart => exact ⟨0, Nat.zero_le _, rfl, hS8, hF8⟩
            case round =>
              clear hS8 hF8
              obtain ⟨j, hj, rfl, hS, hF⟩ := hrel
              by_cases hlj : j < nb
              · have hGr := hG.fr0 hF
                have hb1 : 64 * j + 64 ≤ al.size := by omega
                have hb2 : (64 : Int) * j < al.size := by omega
                obtain ⟨b, hb⟩ : ∃ b, al.extract (64 * j) (64 * j + 64) = b := ⟨_, rfl⟩
                have hbz : b.size = 64 := by rw [← hb, ByteArray.size_extract]; omega
                have hmix : ∀ w', GL w' → Calls Tryd.prog 63 #[aggF 8 (stF (full M j)), .string b] w' fun e w'' => e = .returned (aggF 8 (stF (full M (j + 1)))) ∧ Fr Nil w' w'' := fun w' hg => by
                  have h := mixed_calls (full M j) b w' hbz hg
                  have e : squeeze (full M j) (strF b) = full M (j + 1) := squeeze_congr _ fun i hi => by
                    rw [← hb, blk_of _ _ _ hb1 hi, HAB.out]
                  rw [e] at h
                  exact h
                clear hbz
                go_wp2
                refine QTail.region (QTail.In wr) 7 (by kernel_rfl) (by kernel_rfl) (QTail.In.mk (Fr.refl _ _).drew) ?_
                simp only [List.take_succ_cons, List.take_zero, List.drop_succ_cons, List.drop_zero]
                refine QTail.val rfl (aggF 8 (stF (full M j))) (by
                  rintro w' ⟨y, rfl⟩
                  exact QTail.run_val rfl (run_load_cells _ _ sb 0 8 _ (fun i hi => by rw [Nat.zero_add]; exact (y.fr.has hS (fun h => h)).cell i hi) Tryd.underlying81 rfl rfl)) ?_
                simp only [Act.put, List.setIfInBounds_toArray, List.set_cons_succ, List.set_cons_zero]
                repeat (first | go_big_quiet_step ((go_at_call 63; exact QTail.calls_later (hmix _ (hGr.fr0 (QTail.Later.fr _))))) | quiet_step (fail))
                refine wpQuiet_nil ?_
                rintro _ ⟨y, rfl⟩
                have hS2 := y.fr.has hS (fun h => h)
                have hF2 := hF.then0 y.fr
                generalize y.w = wy at *
                go_wp2_with (refine wpList_store_has hS2 rfl 81 _ _ rfl 0 8 (stF (full M (j + 1))) rfl rfl (by omega) rfl (fun _ _ => rfl) ?_; intro w9 hS9 hF9)
                refine ⟨⟨j + 1, by omega, congrArg (Value.int .i64) (by omega), hS9.congr fun k hk => by rw [if_pos (by omega), Nat.sub_zero], hF2.then1 hF9 (.inl hsbl)⟩, by simp [intOf]; omega⟩
              · have hjn : j = nb := by omega
                subst hjn
                have hend : ¬ ((64 : Int) * j < al.size) := by omega
                go_wp2
                obtain ⟨S, hSe⟩ : ∃ S, full M j = S := ⟨_, rfl⟩
                rw [hSe] at hS
                have hst : S = stateOf M := by
                  rw [← hSe]
                  unfold stateOf
                  rw [HNB.out, Nat.mul_div_cancel_left _ (by omega)]
                have HST := Lib.hid hst
                clear hst hSe
                go_loopw [9, 10] (fun v9 v10 wr => ∃ (q : Nat) (u : ByteArray), q ≤ 8 ∧ v10 = .int .i64 q ∧ v9 = .string u ∧ Hid (u.data.toList = outP S q) ∧ Has wr sb 8 81 (stF S) ∧ Fr Nil w wr) (fun _ v _ => 8 - (intOf v).toNat)
                case atStart => exact ⟨0, _, Nat.zero_le _, rfl, rfl, rfl, hS, hF⟩
                case round =>
                  clear hS hF
                  obtain ⟨q, u, hq, rfl, rfl, HU, hS, hF⟩ := hrel
                  by_cases hlq : q < 8
                  · have hc : wr.cell? ⟨sb, q, none⟩ = some (.int .u32 ((S.get q).toNat : Int)) := hS.cell q hlq
                    have hx := toNat_lt (S.get q)
                    have hus : u.size = 4 * q := by rw [Lib.size_eq, HU.out, outP_length]
                    obtain ⟨ws, hws⟩ : ∃ ws : ByteArray, strB (big (S.get q).toNat 4) = ws := ⟨_, rfl⟩
                    have hw4 : ws.size = 4 := by rw [← hws]; exact big_length _ _
                    have hsum : ¬ 9223372036854775807 < u.size + ws.size := by omega
                    have hbig := fun w' => big_calls (S.get q).toNat 4 w' (by omega) (by omega)
                    rw [hws] at hbig
                    have HWS := Lib.hid hws
                    clear hus hw4 hws
                    go_wp2_with (go_at_call 62; refine (hbig _).mono ?_; rintro e w2 ⟨rfl, hF2⟩)
                    refine ⟨⟨q + 1, _, by omega, by go_num, rfl, ?_, hF2.has hS (fun h => h), hF.then0 hF2⟩, by simp [intOf]; omega⟩
                    show (u ++ ws).data.toList = outP S q ++ wordBytes (S.get q)
                    rw [ByteArray.data_append, Array.toList_append, HU.out, ← HWS.out]
                    rfl
                  · have hq8 : q = 8 := by omega
                    subst hq8
                    go_wp2
                    go_ret
                    refine ⟨?_, hF⟩
                    have e : u = strB (sha (cat f i)) := by
                      apply ByteArray.ext
                      apply Array.toList_inj.1
                      rw [HU.out, outP_all, HST.out, ← HM.out]
                      rfl
                    show Ending.returned (.string u) = _
                    rw [e]

end Go.Proofs.YtldiecblcnoleaaDoor.Sha
