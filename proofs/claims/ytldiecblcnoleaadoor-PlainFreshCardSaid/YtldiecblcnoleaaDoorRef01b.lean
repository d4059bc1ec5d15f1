/- The reference's SHA-256: the contract of mixed. Condition: the table of rounds holds what the row lists. -/
import Derived.Test.YtldiecblcnoleaaDoorRef01
namespace Go.Proofs.YtldiecblcnoleaaDoor.Sha
open Go.RowKit Go.Proofs.YtldiecblcnoleaaDoor.Mem
set_option linter.unusedVariables false
set_option linter.unusedSimpArgs false

/-- The reference's two tables: block 0 and block 1. -/
structure GL (w : World) : Prop where
  first : ∀ i, i < 8 → w.cell? ⟨0, i, none⟩ = some (.int .u32 ((start.get i).toNat : Int))
  rounds : ∀ i, i < 64 → w.cell? ⟨1, i, none⟩ = some (.int .u32 ((roundKs.getD i 0).toNat : Int))
  size : 2 ≤ w.heap.size

theorem GL.fr {S : Nat → Prop} {w w' : World} (h : GL w) (k : Fr S w w') (h0 : ¬ S 0) (h1 : ¬ S 1) : GL w' :=
  ⟨fun i hi => by rw [k.cell (p := ⟨0, i, none⟩) (show 0 < w.heap.size by have := h.size; omega) h0]; exact h.first i hi,
   fun i hi => by rw [k.cell (p := ⟨1, i, none⟩) (show 1 < w.heap.size by have := h.size; omega) h1]; exact h.rounds i hi, Nat.le_trans h.size k.size⟩

theorem GL.fr0 {w w' : World} (h : GL w) (k : Fr Nil w w') : GL w' := h.fr k (fun h => h) (fun h => h)

def stF (s : S8) (i : Nat) : Value := .int .u32 ((s.get i).toNat : Int)

def gF (v : S8) (o t : W32) : Nat → Value
  | 0 => .int .u32 (((o.toNat : Int) + (t.toNat : Int)) % (4294967296 : Int))
  | 1 => .int .u32 (v.a.toNat : Int)
  | 2 => .int .u32 (v.b.toNat : Int)
  | 3 => .int .u32 (v.c.toNat : Int)
  | 4 => .int .u32 (((v.d.toNat : Int) + (o.toNat : Int)) % (4294967296 : Int))
  | 5 => .int .u32 (v.e.toNat : Int)
  | 6 => .int .u32 (v.f.toNat : Int)
  | _ => .int .u32 (v.g.toNat : Int)

theorem gF_rnd (v : S8) (k w : W32) (i : Nat) (hi : i < 8) : gF v (one v k w) (two v) i = stF (rnd v k w) i := by
  match i, hi with
  | 0, _ => exact congrArg (Value.int .u32) (add_w _ _)
  | 1, _ => rfl
  | 2, _ => rfl
  | 3, _ => rfl
  | 4, _ => exact congrArg (Value.int .u32) (add_w _ _)
  | 5, _ => rfl
  | 6, _ => rfl
  | 7, _ => rfl

theorem gF_one (v : S8) (o t : W32) (i : Nat) (hi : i < 8) : (gF v o t i).oneCell' = true := by
  match i, hi with
  | 0, _ => rfl
  | 1, _ => rfl
  | 2, _ => rfl
  | 3, _ => rfl
  | 4, _ => rfl
  | 5, _ => rfl
  | 6, _ => rfl
  | 7, _ => rfl

theorem alloc_state (w : World) : (Instr.alloc 81 true (.tuple #[])).run Tryd.prog w = .ok (.pointer (some ⟨w.heap.size, 0, none⟩)) (w.alloc (.cells (cellsF 8 (stF ⟨0, 0, 0, 0, 0, 0, 0, 0⟩)).toArray 81)) := by kernel_rfl

theorem add_comm8 (v s : S8) : v.add s = s.add v := by
  simp only [S8.add, BitVec.add_comm]

def addF (v s : S8) (n i : Nat) : Value := if i < n then stF (v.add s) i else stF v i

set_option maxRecDepth 100000 in
set_option maxHeartbeats 1000000 in
theorem mixed_calls (s : S8) (b : ByteArray) (w : World) (hs : b.size = 64) (hG : GL w) :
    Calls Tryd.prog 63 #[aggF 8 (stF s), .string b] w fun e w' => e = .returned (aggF 8 (stF (squeeze s (strF b)))) ∧ Fr Nil w w' := by
  go_enter Tryd.func63, Tryd.ntmps63
  iterate 3 go_step
  refine wpList_new rfl 8 81 (stF s) (by kernel_rfl) ?_
  intro w1 hS hF1 hz1
  obtain ⟨sb, hsb⟩ : ∃ sb, sb = w.heap.size := ⟨_, rfl⟩
  rw [← hsb] at hS ⊢
  have l1 : sb < w1.heap.size := by omega
  have l0 : w.heap.size ≤ sb := by omega
  clear hz1 hsb
  refine wpList_alloc rfl 81 rfl 8 81 _ (alloc_state _) ?_
  intro w2 hR hF2 hz2
  obtain ⟨rb, hrb⟩ : ∃ rb, rb = w1.heap.size := ⟨_, rfl⟩
  rw [← hrb] at hR hz2 l1 ⊢
  have l2 : rb < w2.heap.size := by omega
  clear hz2 hrb
  go_wp2_with fail
  refine (plan_calls b w2 hs).mono ?_
  rintro e w3 ⟨rfl, hF3⟩
  dsimp only
  go_step
  refine wpList_alloc rfl 86 rfl 64 86 _ (alloc_words _) ?_
  intro w4 hW hF4 hz4
  obtain ⟨wb, hwb⟩ : ∃ wb, wb = w3.heap.size := ⟨_, rfl⟩
  have l3 : rb < wb := by have := hF3.size; omega
  rw [← hwb] at hW hz4 ⊢
  have l4 : wb < w4.heap.size := by omega
  clear hz4 hwb
  refine wpList_store_has hW rfl 86 _ _ rfl 0 64 _ rfl rfl (by omega) rfl (fun _ _ => rfl) ?_
  intro w5 hW5 hF5
  have hF13 := (hF1.then0 hF2).then0 hF3
  have hF15 := (hF13.then0 hF4).then1 hF5 (.inl (by omega))
  have hS5 := hF5.has (hF4.has (hF3.has (hF2.has hS (fun h => h)) (fun h => h)) (fun h => h)) (show ¬ sb = wb by omega)
  have hR5 := hF5.has (hF4.has (hF3.has hR (fun h => h)) (fun h => h)) (show ¬ rb = wb by omega)
  have hW6 := hW5.congr (g := wordsF (sch1 (strF b) 48)) fun j hj => by rw [if_pos (by omega), Nat.sub_zero]
  have l5 : wb < w5.heap.size := hW5.lt
  clear hW5 hW hF5 hF4 hF13 hR hS hF1 hF2 hF3 l2 l4
  go_wp2_with (first
    | (refine wpList_load_has hS5 rfl 81 _ rfl 0 8 (stF s) rfl Tryd.underlying81 rfl rfl (by omega) (fun j _ => by rw [Nat.zero_add]) ?_)
    | (refine wpList_alloc rfl 81 rfl 8 81 _ (alloc_state _) ?_; intro w6 hV hF6 hz6; refine wpList_store_has hV rfl 81 _ _ rfl 0 8 (stF s) rfl rfl (by omega) rfl (fun _ _ => rfl) ?_; intro w7 hV7 hF7))
  obtain ⟨vb, hvb⟩ : ∃ vb, vb = w5.heap.size := ⟨_, rfl⟩
  rw [← hvb] at hV hV7 hF7 l5 ⊢
  have hF := (hF15.then0 hF6).then1 hF7 (.inl (by omega))
  have hS := hF7.has (hF6.has hS5 (fun h => h)) (show ¬ sb = vb by omega)
  have hR := hF7.has (hF6.has hR5 (fun h => h)) (show ¬ rb = vb by omega)
  have hW := hF7.has (hF6.has hW6 (fun h => h)) (show ¬ wb = vb by omega)
  have hV := hV7.congr (g := stF s) fun j hj => by rw [if_pos (by omega), Nat.sub_zero]
  clear hV7 hF7 hF6 hz6 hvb hS5 hR5 hW6 hF15
  go_loopw [7] (fun v7 wr => ∃ t : Nat, t ≤ 64 ∧ v7 = .int .i64 t ∧ Has wr vb 8 81 (stF (turns s (sch1 (strF b) 48) t)) ∧ Has wr wb 64 86 (wordsF (sch1 (strF b) 48)) ∧ Has wr sb 8 81 (stF s) ∧ (∃ f, Has wr rb 8 81 f) ∧ Fr Nil w wr) (fun v _ => 64 - (intOf v).toNat)
  case atStart => exact ⟨0, Nat.zero_le _, rfl, hV, hW, hS, ⟨_, hR⟩, hF⟩
  case round =>
    clear hV hW hS hR hF
    obtain ⟨t, ht, rfl, hV, hW, hS, ⟨f, hR⟩, hF⟩ := hrel
    have hg := hG.fr0 hF
    by_cases hlt : t < 64
    · obtain ⟨v, hv⟩ : ∃ v, turns s (sch1 (strF b) 48) t = v := ⟨_, rfl⟩
      rw [hv] at hV
      obtain ⟨kt, hkt⟩ : ∃ x, roundKs.getD t 0 = x := ⟨_, rfl⟩
      obtain ⟨wt, hwt⟩ : ∃ x, (sch1 (strF b) 48).getD t 0 = x := ⟨_, rfl⟩
      have LK := hg.rounds t hlt
      have LW : wr.cell? ⟨wb, t, none⟩ = some (.int .u32 ((sch1 (strF b) 48).getD t 0).toNat) := hW.cell _ hlt
      rw [hkt] at LK
      rw [hwt] at LW
      have HX := Lib.hid (And.intro hkt (And.intro hwt hv))
      clear hkt hwt hv
      have c0 : wr.cell? ⟨vb, 0, none⟩ = some (.int .u32 v.a.toNat) := hV.cell 0 (by omega)
      have c1 : wr.cell? ⟨vb, 1, none⟩ = some (.int .u32 v.b.toNat) := hV.cell 1 (by omega)
      have c2 : wr.cell? ⟨vb, 2, none⟩ = some (.int .u32 v.c.toNat) := hV.cell 2 (by omega)
      have c3 : wr.cell? ⟨vb, 3, none⟩ = some (.int .u32 v.d.toNat) := hV.cell 3 (by omega)
      have c4 : wr.cell? ⟨vb, 4, none⟩ = some (.int .u32 v.e.toNat) := hV.cell 4 (by omega)
      have c5 : wr.cell? ⟨vb, 5, none⟩ = some (.int .u32 v.f.toNat) := hV.cell 5 (by omega)
      have c6 : wr.cell? ⟨vb, 6, none⟩ = some (.int .u32 v.g.toNat) := hV.cell 6 (by omega)
      have c7 : wr.cell? ⟨vb, 7, none⟩ = some (.int .u32 v.h.toNat) := hV.cell 7 (by omega)
      go_wp2
      go_quiet ((go_at_call 82; exact Calls.quiet_of (refturn_k _ _ (by decide) (by decide) _)))
      go_wp2
      rw [one_val]
      refine QTail.quiet (fun w' => ∃ n, w' = wr.drewN n) (by kernel_rfl) (by kernel_rfl) ⟨nq + 1, rfl⟩ ?_
      repeat (first | go_big_quiet_step ((go_at_call 82; exact Calls.quiet_of (refturn_k _ _ (by decide) (by decide) _))) | quiet_step (fail))
      refine wpQuiet_nil ?_
      rintro _ ⟨nq2, rfl⟩
      rw [two_val]
      have hVq := hV.drewN nq2
      go_wp2_with (refine wpList_store_has hVq rfl 81 _ _ rfl 0 8 (gF v (one v kt wt) (two v)) rfl rfl (by omega) rfl (gF_one _ _ _) ?_; intro w9 hV9 hF9)
      have hFq := hF.drewN nq2
      refine ⟨⟨t + 1, by omega, by go_num, hV9.congr fun j hj => ?_, hF9.has (hW.drewN nq2) (show ¬ wb = vb by omega), hF9.has (hS.drewN nq2) (show ¬ sb = vb by omega), ⟨_, hF9.has (hR.drewN nq2) (show ¬ rb = vb by omega)⟩, hFq.then1 hF9 (.inl (by omega))⟩, by simp [intOf]; omega⟩
      rw [if_pos (by omega), Nat.sub_zero, gF_rnd _ _ _ _ hj]
      obtain ⟨hk, hw, hv⟩ := HX.out
      show _ = stF (rnd (turns s (sch1 (strF b) 48) t) (roundKs.getD t 0) ((sch1 (strF b) 48).getD t 0)) j
      rw [hk, hw, hv]
    · have h64 : t = 64 := by omega
      subst h64
      obtain ⟨v, hv⟩ : ∃ v, turns s (sch1 (strF b) 48) 64 = v := ⟨_, rfl⟩
      rw [hv] at hV
      have HV := Lib.hid hv
      clear hv
      go_wp2
      go_loopw [10] (fun v10 wi => ∃ n : Nat, n ≤ 8 ∧ v10 = .int .i64 n ∧ Has wi vb 8 81 (addF v s n) ∧ Has wi sb 8 81 (stF s) ∧ (∃ f, Has wi rb 8 81 f) ∧ Fr Nil w wi) (fun v _ => 8 - (intOf v).toNat)
      case atStart => exact ⟨0, Nat.zero_le _, rfl, hV.congr fun i hi => by unfold addF; rw [if_neg (by omega)], hS, ⟨_, hR⟩, hF⟩
      case round =>
        clear hV hS hR hF
        obtain ⟨n, hn, rfl, hV, hS, ⟨f, hR⟩, hF⟩ := hrel
        by_cases hln : n < 8
        · have hc1 : wr.cell? ⟨vb, n, none⟩ = some (.int .u32 ((v.get n).toNat : Int)) := by
            rw [hV.cell _ hln]
            unfold addF
            rw [if_neg (by omega)]
            rfl
          have hc2 : wr.cell? ⟨sb, n, none⟩ = some (.int .u32 ((s.get n).toNat : Int)) := hS.cell _ hln
          have hf := hV.free n
          go_wp2
          refine QTail.region (fun w' => ∃ k, w' = wr.drewN k) 9 (by kernel_rfl) (by kernel_rfl) ⟨1, rfl⟩ ?_
          simp only [List.take_succ_cons, List.take_zero, List.drop_succ_cons, List.drop_zero]
          repeat (first | go_big_quiet_step (fail) | quiet_step (fail))
          refine wpQuiet_nil ?_
          rintro _ ⟨nq2, rfl⟩
          go_wp2
          rw [add_w]
          refine ⟨⟨n + 1, by omega, by go_num, ((hV.drewN nq2).put n _).congr fun j hj => ?_, (hS.drewN nq2).far _ _ (by show sb ≠ vb; omega), ⟨_, (hR.drewN nq2).far _ _ (by show rb ≠ vb; omega)⟩, (hF.drewN nq2).setCell _ _ (.inl (by show w.heap.size ≤ vb; omega))⟩, by simp [intOf]; omega⟩
          unfold addF
          by_cases e : j = n
          · subst e
            rw [if_pos rfl, if_pos (by omega), add_get _ _ _ hln]
            rfl
          · rw [if_neg e]
            by_cases e2 : j < n
            · rw [if_pos e2, if_pos (by omega)]
            · rw [if_neg e2, if_neg (by omega)]
        · have h8 : n = 8 := by omega
          subst h8
          have hV8 := hV.congr (g := stF (v.add s)) fun j hj => by unfold addF; rw [if_pos hj]
          go_wp2_with (first
            | (refine wpList_load_has hV8 rfl 81 _ rfl 0 8 (stF (v.add s)) rfl Tryd.underlying81 rfl rfl (by omega) (fun j _ => by rw [Nat.zero_add]) ?_)
            | (refine wpList_store_has hR rfl 81 _ _ rfl 0 8 (stF (v.add s)) rfl rfl (by omega) rfl (fun _ _ => rfl) ?_; intro w9 hR9 hF9))
          have hR10 := hR9.congr (g := stF (squeeze s (strF b))) fun j hj => by
            rw [if_pos (by omega), Nat.sub_zero, add_comm8]
            unfold squeeze
            rw [HV.out]
          exact bodyPost_ret (results_has rfl _ rfl hR10 Tryd.underlying81 rfl rfl) rfl ⟨rfl, hF.then1 hF9 (.inl (by omega))⟩

end Go.Proofs.YtldiecblcnoleaaDoor.Sha
