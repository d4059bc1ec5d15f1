/- The contract of sha's turn: a full block is taken into the state. Condition: the state and the rounds' table lie in memory. -/
import Derived.Test.YtldiecblcnoleaaDoorShaTurn
import Derived.Test.YtldiecblcnoleaaDoorQTail
import Derived.Lib.Hide
namespace Go.Proofs.YtldiecblcnoleaaDoor.Sha
open Go.RowKit Go.Proofs.YtldiecblcnoleaaDoor.Mem
set_option linter.unusedVariables false
set_option linter.unusedSimpArgs false

/-- A Hash in memory. -/
def hashF (s : S8) (b : Nat → UInt8) (fill size : Int) (i : Nat) : Value :=
  if i < 8 then encW (s.get i) else if i < 72 then encB (b (i - 8)) else if i = 72 then .int .i64 fill else .int .u64 size

theorem hashF_block {s : S8} {b : Nat → UInt8} {fill size : Int} (i : Nat) (h : i < 64) : hashF s b fill size (8 + i) = .int .u8 (b i).toNat := by
  unfold hashF
  rw [if_neg (by omega), if_pos (by omega), show 8 + i - 8 = i from by omega]
  rfl

def wordsF (l : List W32) (i : Nat) : Value := encW (l.getD i 0)

theorem wordsF_put (l : List W32) (x y : W32) (j : Nat) : (if j = l.length then .int .u32 y.toNat else wordsF (l ++ [x]) j) = wordsF (l ++ [y]) j := by
  unfold wordsF
  by_cases h : j = l.length
  · subst h; simp [encW]
  · rw [if_neg h]
    rcases Nat.lt_or_gt_of_ne h with h | h
    · simp [List.getElem?_append_left h]
    · rw [List.getD_eq_getElem?_getD, List.getD_eq_getElem?_getD, List.getElem?_eq_none (by simp; omega), List.getElem?_eq_none (by simp; omega)]

theorem wordsF_grow (l : List W32) (y : W32) (j : Nat) : (if j = l.length then .int .u32 y.toNat else wordsF l j) = wordsF (l ++ [y]) j := by
  unfold wordsF
  by_cases h : j = l.length
  · subst h; simp [encW]
  · rw [if_neg h]
    rcases Nat.lt_or_gt_of_ne h with h | h
    · simp [List.getElem?_append_left h]
    · rw [List.getD_eq_getElem?_getD, List.getD_eq_getElem?_getD, List.getElem?_eq_none (by omega), List.getElem?_eq_none (by simp; omega)]

theorem wordsF_zero (l : List W32) (j : Nat) : wordsF l j = wordsF (l ++ [0]) j := by
  rw [← wordsF_grow]
  by_cases h : j = l.length
  · subst h; simp [wordsF, encW]
  · rw [if_neg h]

theorem wordsF_last (l : List W32) (x : W32) : wordsF (l ++ [x]) l.length = .int .u32 x.toNat := by
  simp [wordsF, encW]

theorem zeros_cells : ∀ i, i < 64 → (Array.replicate 64 (Value.int .u32 0))[i]? = some (wordsF [] i) := by
  intro i hi
  rw [Array.getElem?_replicate, if_pos hi]; rfl

theorem or_step (x : W32) (c : UInt8) : bits .or .u32 ((x.toNat : Int) * 256 % 4294967296) ((c.toNat : Int) % 4294967296) = ((x <<< 8 ||| byteW c).toNat : Int) := by
  have h : ((c.toNat : Int) % 4294967296) = ((byteW c).toNat : Int) := by rw [← byte_w]; have := c.toNat_lt; omega
  rw [h, show ((x.toNat : Int) * 256) = (x.toNat : Int) * 2 ^ 8 from rfl, shl_w, bits_or]

theorem ext_val (x0 x1 x9 x14 : W32) :
    ((x0.toNat : Int) + bits .xor .u32 (bits .xor .u32 ((rotr x1 7).toNat : Int) ((rotr x1 18).toNat : Int)) ((x1.toNat : Int) / 8) + (x9.toNat : Int)
      + bits .xor .u32 (bits .xor .u32 ((rotr x14 17).toNat : Int) ((rotr x14 19).toNat : Int)) ((x14.toNat : Int) / 1024)) % (4294967296 : Int)
    = ((x0 + (rotr x1 7 ^^^ rotr x1 18 ^^^ x1 >>> 3) + x9 + (rotr x14 17 ^^^ rotr x14 19 ^^^ x14 >>> 10)).toNat : Int) := by
  rw [show (x1.toNat : Int) / 8 = (x1.toNat : Int) / 2 ^ 3 from rfl, show (x14.toNat : Int) / 1024 = (x14.toNat : Int) / 2 ^ 10 from rfl, shr_w, shr_w, bits_xor, bits_xor, bits_xor, bits_xor]
  simp only [BitVec.toNat_add]
  omega

theorem ext_is (l : List W32) (t : Nat) (h : l.length = 16 + t) : ext l = l.getD t 0 + (rotr (l.getD (1 + t) 0) 7 ^^^ rotr (l.getD (1 + t) 0) 18 ^^^ (l.getD (1 + t) 0) >>> 3)
    + l.getD (9 + t) 0 + (rotr (l.getD (14 + t) 0) 17 ^^^ rotr (l.getD (14 + t) 0) 19 ^^^ (l.getD (14 + t) 0) >>> 10) := by
  unfold ext
  rw [h, show 16 + t - 16 = t from by omega, show 16 + t - 15 = 1 + t from by omega, show 16 + t - 7 = 9 + t from by omega, show 16 + t - 2 = 14 + t from by omega]

theorem not_max (x : W32) : bits .xor .u32 IntKind.u32.max (x.toNat : Int) = ((~~~x).toNat : Int) := by
  have h : (IntKind.u32.max : Int) = ((BitVec.allOnes 32).toNat : Int) := by decide
  rw [h, bits_xor, BitVec.allOnes_xor]

theorem one_val (v : S8) (k w : W32) :
    ((v.h.toNat : Int) + bits .xor .u32 (bits .xor .u32 ((rotr v.e 6).toNat : Int) ((rotr v.e 11).toNat : Int)) ((rotr v.e 25).toNat : Int)
      + bits .xor .u32 (bits .and .u32 (v.e.toNat : Int) (v.f.toNat : Int)) (bits .and .u32 (bits .xor .u32 IntKind.u32.max (v.e.toNat : Int)) (v.g.toNat : Int))
      + (k.toNat : Int) + (w.toNat : Int)) % (4294967296 : Int) = ((one v k w).toNat : Int) := by
  rw [not_max, bits_xor, bits_xor, bits_and, bits_and, bits_xor]
  unfold one
  simp only [BitVec.toNat_add]
  omega

theorem two_val (v : S8) :
    (bits .xor .u32 (bits .xor .u32 ((rotr v.a 2).toNat : Int) ((rotr v.a 13).toNat : Int)) ((rotr v.a 22).toNat : Int)
      + bits .xor .u32 (bits .xor .u32 (bits .and .u32 (v.a.toNat : Int) (v.b.toNat : Int)) (bits .and .u32 (v.a.toNat : Int) (v.c.toNat : Int))) (bits .and .u32 (v.b.toNat : Int) (v.c.toNat : Int))) % (4294967296 : Int)
      = ((two v).toNat : Int) := by
  rw [bits_xor, bits_xor, bits_and, bits_and, bits_and, bits_xor, bits_xor]
  unfold two
  simp only [BitVec.toNat_add]
  omega

theorem rnd_a (v : S8) (k w : W32) :
    ((v.h.toNat : Int) + bits .xor .u32 (bits .xor .u32 ((rotr v.e 6).toNat : Int) ((rotr v.e 11).toNat : Int)) ((rotr v.e 25).toNat : Int)
      + bits .xor .u32 (bits .and .u32 (v.e.toNat : Int) (v.f.toNat : Int)) (bits .and .u32 (bits .xor .u32 IntKind.u32.max (v.e.toNat : Int)) (v.g.toNat : Int))
      + (k.toNat : Int) + (w.toNat : Int) +
     (bits .xor .u32 (bits .xor .u32 ((rotr v.a 2).toNat : Int) ((rotr v.a 13).toNat : Int)) ((rotr v.a 22).toNat : Int)
      + bits .xor .u32 (bits .xor .u32 (bits .and .u32 (v.a.toNat : Int) (v.b.toNat : Int)) (bits .and .u32 (v.a.toNat : Int) (v.c.toNat : Int))) (bits .and .u32 (v.b.toNat : Int) (v.c.toNat : Int)))) % (4294967296 : Int)
      = ((rnd v k w).a.toNat : Int) := by
  rw [Int.add_emod, one_val, two_val, add_w]
  rfl

theorem rnd_e (v : S8) (k w : W32) :
    ((v.d.toNat : Int) + ((v.h.toNat : Int) + bits .xor .u32 (bits .xor .u32 ((rotr v.e 6).toNat : Int) ((rotr v.e 11).toNat : Int)) ((rotr v.e 25).toNat : Int)
      + bits .xor .u32 (bits .and .u32 (v.e.toNat : Int) (v.f.toNat : Int)) (bits .and .u32 (bits .xor .u32 IntKind.u32.max (v.e.toNat : Int)) (v.g.toNat : Int))
      + (k.toNat : Int) + (w.toNat : Int))) % (4294967296 : Int) = ((rnd v k w).e.toNat : Int) := by
  rw [← Int.add_emod_emod, one_val, add_w]
  rfl

/-- The state when n of its words have been added to. -/
def hashG (s v : S8) (b : Nat → UInt8) (fill size : Int) (n i : Nat) : Value := if i < n then encW (s.get i + v.get i) else hashF s b fill size i

theorem add_get (s v : S8) (n : Nat) (h : n < 8) : s.get n + v.get n = (s.add v).get n := by
  match n, h with
  | 0, _ => rfl
  | 1, _ => rfl
  | 2, _ => rfl
  | 3, _ => rfl
  | 4, _ => rfl
  | 5, _ => rfl
  | 6, _ => rfl
  | 7, _ => rfl

theorem index8 (v : S8) (n : Nat) (h : n < 8) (w : World) :
    (Instr.index 81 (.agg #[.int .u32 v.a.toNat, .int .u32 v.b.toNat, .int .u32 v.c.toNat, .int .u32 v.d.toNat, .int .u32 v.e.toNat, .int .u32 v.f.toNat, .int .u32 v.g.toNat, .int .u32 v.h.toNat]) (.int .i64 (n : Int))).run Tryd.prog w
      = .ok (.int .u32 (v.get n).toNat) w := by
  match n, h with
  | 0, _ => show _ = _; kernel_rfl
  | 1, _ => show _ = _; kernel_rfl
  | 2, _ => show _ = _; kernel_rfl
  | 3, _ => show _ = _; kernel_rfl
  | 4, _ => show _ = _; kernel_rfl
  | 5, _ => show _ = _; kernel_rfl
  | 6, _ => show _ = _; kernel_rfl
  | 7, _ => show _ = _; kernel_rfl

theorem sz5 {w : World} : (sizeOf 5).run Tryd.prog w = .ok 1 w := by kernel_rfl

set_option maxRecDepth 100000 in
set_option maxHeartbeats 1000000 in
theorem turn_calls (g gk : Nat) (s : S8) (b : Nat → UInt8) (fill size : Int) (w : World) (hne : g ≠ gk)
    (hH : Has w g 74 85 (hashF s b fill size)) (hK : Has w gk 64 86 (wordsF roundKs)) :
    Calls Tryd.prog 65 #[.pointer (some ⟨g, 0, none⟩), .pointer (some ⟨gk, 0, none⟩)] w fun e w' =>
      e = .returned (.tuple #[]) ∧ Has w' g 74 85 (hashF (squeeze s b) b 0 size) ∧ Fr (· = g) w w' := by
  go_enter Tryd.func65, Tryd.ntmps65
  go_wp2
  go_loopw [24] (fun v24 wr => ∃ t : Nat, t ≤ 16 ∧ v24 = .int .i64 t ∧ Has wr w.heap.size 64 86 (wordsF (sch0 b t)) ∧ Fr Nil w wr) (fun v _ => 16 - (intOf v).toNat)
  case atStart =>
    refine ⟨0, by omega, rfl, ?_, (Fr.refl _ _).alloc _⟩
    exact Has.new _ _ _ _ _ rfl zeros_cells
  case round =>
    obtain ⟨t, ht, rfl, hw, hfr⟩ := hrel
    obtain ⟨wo, rfl⟩ : ∃ wo : World, wo = wr := ⟨_, rfl⟩
    have hgl := hH.lt
    by_cases hlt : t < 16
    ·
      have hlen := sch0_length b t
      have hsl := slice_arr Tryd.underlying83 wo sz5 g 8 (4 * t) (4 * t + 4) (by omega) (by omega) (by omega)
      simp only [Int.natCast_add, Int.natCast_mul, Int.cast_ofNat_Int] at hsl
      rw [show 4 * t + 4 - 4 * t = 4 from by omega] at hsl
      have HL := Lib.hid hlen
      clear hlen
      go_wp2
      go_loopw [37] (fun v37 wi => ∃ i : Nat, i ≤ 4 ∧ v37 = .int .i64 i ∧ Has wi w.heap.size 64 86 (wordsF (sch0 b t ++ [wpart b t i])) ∧ Fr Nil w wi) (fun v _ => 4 - (intOf v).toNat)
      case atStart =>
        exact ⟨0, by omega, rfl, hw.congr fun i hi => wordsF_zero _ _, hfr⟩
      case round =>
        obtain ⟨i, hi, rfl, hw1, hfr1⟩ := hrel
        by_cases hli : i < 4
        · have hc1 : wr.cell? ⟨g, 8 + 4 * t + i, none⟩ = some (.int .u8 (b (4 * t + i)).toNat) := by
            rw [(hfr1.has hH (fun h => h)).cell _ (by omega), show 8 + 4 * t + i = 8 + (4 * t + i) from by omega, hashF_block _ (by omega)]
          have hc2 : wr.cell? ⟨w.heap.size, t, none⟩ = some (.int .u32 (wpart b t i).toNat) := by
            rw [hw1.cell _ (by omega)]
            congr 1
            exact (congrArg (wordsF _) HL.out.symm).trans (wordsF_last _ _)
          have hc3 := hw1.free t
          go_wp2
          rw [or_step]
          refine ⟨⟨i + 1, by omega, by go_num, (hw1.put t _).congr fun j hj => ?_, hfr1.setCell _ _ (.inl (Nat.le_refl _))⟩, by simp [intOf]; omega⟩
          have e := wordsF_put (sch0 b t) (wpart b t i) (wpart b t (i + 1)) j
          rw [HL.out] at e
          exact e
        · have h4 : i = 4 := by omega
          subst h4
          go_wp2
          go_roundw
          case rel => exact ⟨t + 1, by omega, by go_num, hw1, hfr1⟩
          case measure => simp [intOf]; omega
    · have h16 : t = 16 := by omega
      subst h16
      go_wp2
      go_loopw [8] (fun v8 wr => ∃ t : Nat, t ≤ 48 ∧ v8 = .int .i64 (16 + (t : Int)) ∧ Has wr w.heap.size 64 86 (wordsF (sch1 b t)) ∧ Fr Nil w wr) (fun v _ => 64 - (intOf v).toNat)
      case atStart => exact ⟨0, by omega, rfl, hw, hfr⟩
      case round =>
        obtain ⟨t, ht, rfl, hw1, hfr1⟩ := hrel
        by_cases hlt : t < 48
        ·
          have hlen := sch1_length b t
          have L1 : wr.cell? ⟨w.heap.size, 1 + t, none⟩ = some (.int .u32 ((sch1 b t).getD (1 + t) 0).toNat) := hw1.cell _ (by omega)
          have L14 : wr.cell? ⟨w.heap.size, 14 + t, none⟩ = some (.int .u32 ((sch1 b t).getD (14 + t) 0).toNat) := hw1.cell _ (by omega)
          have L0 : wr.cell? ⟨w.heap.size, t, none⟩ = some (.int .u32 ((sch1 b t).getD t 0).toNat) := hw1.cell _ (by omega)
          have L9 : wr.cell? ⟨w.heap.size, 9 + t, none⟩ = some (.int .u32 ((sch1 b t).getD (9 + t) 0).toNat) := hw1.cell _ (by omega)
          have L16 : wr.cell? ⟨w.heap.size, 16 + t, none⟩ = some (.int .u32 ((sch1 b t).getD (16 + t) 0).toNat) := hw1.cell _ (by omega)
          have F16 := hw1.free (16 + t)
          obtain ⟨x0, hx0⟩ : ∃ x, (sch1 b t).getD t 0 = x := ⟨_, rfl⟩
          obtain ⟨x1, hx1⟩ : ∃ x, (sch1 b t).getD (1 + t) 0 = x := ⟨_, rfl⟩
          obtain ⟨x9, hx9⟩ : ∃ x, (sch1 b t).getD (9 + t) 0 = x := ⟨_, rfl⟩
          obtain ⟨x14, hx14⟩ : ∃ x, (sch1 b t).getD (14 + t) 0 = x := ⟨_, rfl⟩
          rw [hx0] at L0
          rw [hx1] at L1
          rw [hx9] at L9
          rw [hx14] at L14
          have HX := Lib.hid (And.intro hx0 (And.intro hx1 (And.intro hx9 hx14)))
          have HL := Lib.hid hlen
          clear hx0 hx1 hx9 hx14 hlen
          have i15 : IntKind.i64.wrap (16 + (t : Int) - 15) = ((1 + t : Nat) : Int) := by rw [IntWalk.i64_in _ (by omega)]; omega
          have i2 : IntKind.i64.wrap (16 + (t : Int) - 2) = ((14 + t : Nat) : Int) := by rw [IntWalk.i64_in _ (by omega)]; omega
          have i16 : IntKind.i64.wrap (16 + (t : Int) - 16) = (t : Int) := by rw [IntWalk.i64_in _ (by omega)]; omega
          have i7 : IntKind.i64.wrap (16 + (t : Int) - 7) = ((9 + t : Nat) : Int) := by rw [IntWalk.i64_in _ (by omega)]; omega
          go_wp2
          go_quiet (fail)
          go_wp2
          refine QTail.region (fun w' => ∃ n, w' = wr.drewN n) 29 (by kernel_rfl) (by kernel_rfl) ⟨nq + 1, rfl⟩ ?_
          simp only [List.take_succ_cons, List.take_zero, List.drop_succ_cons, List.drop_zero]
          repeat (first | go_big_quiet_step ((go_at_call 83; exact Calls.quiet_of (rotl_k _ _ (by decide) (by decide) _))) | quiet_step (fail))
          refine wpQuiet_nil ?_
          rintro _ ⟨nq2, rfl⟩
          clear i15 i2 i16 i7
          go_wp2
          rw [ext_val]
          refine ⟨⟨t + 1, by omega, by go_num, ((hw1.drewN nq2).put (16 + t) _).congr fun j hj => ?_, (hfr1.drewN nq2).setCell _ _ (.inl (Nat.le_refl _))⟩, by simp [intOf]; omega⟩
          obtain ⟨hx0, hx1, hx9, hx14⟩ := HX.out
          have e := wordsF_grow (sch1 b t) (ext (sch1 b t)) j
          rw [HL.out, ext_is _ _ HL.out, hx0, hx1, hx9, hx14] at e
          rw [e, ← hx0, ← hx1, ← hx9, ← hx14, ← ext_is _ _ HL.out]
          rfl
        · have h48 : t = 48 := by omega
          subst h48
          have hHr := hfr1.has hH (fun h => h)
          have c0 : wr.cell? ⟨g, 0, none⟩ = some (.int .u32 s.a.toNat) := hHr.cell 0 (by omega)
          have c1 : wr.cell? ⟨g, 1, none⟩ = some (.int .u32 s.b.toNat) := hHr.cell 1 (by omega)
          have c2 : wr.cell? ⟨g, 2, none⟩ = some (.int .u32 s.c.toNat) := hHr.cell 2 (by omega)
          have c3 : wr.cell? ⟨g, 3, none⟩ = some (.int .u32 s.d.toNat) := hHr.cell 3 (by omega)
          have c4 : wr.cell? ⟨g, 4, none⟩ = some (.int .u32 s.e.toNat) := hHr.cell 4 (by omega)
          have c5 : wr.cell? ⟨g, 5, none⟩ = some (.int .u32 s.f.toNat) := hHr.cell 5 (by omega)
          have c6 : wr.cell? ⟨g, 6, none⟩ = some (.int .u32 s.g.toNat) := hHr.cell 6 (by omega)
          have c7 : wr.cell? ⟨g, 7, none⟩ = some (.int .u32 s.h.toNat) := hHr.cell 7 (by omega)
          go_wp2
          go_quiet (fail)
          clear c0 c1 c2 c3 c4 c5 c6 c7
          go_wp2
          have hHq := hHr.drewN nq
          have hWq := hw1.drewN nq
          have hFq := hfr1.drewN nq
          generalize wr.drewN nq = wq at *
          clear hHr hw1 hfr1 hw hfr
          have hgk := hK.lt
          go_loopw [11, 12, 13, 14, 15, 16, 17, 18, 133] (fun v11 v12 v13 v14 v15 v16 v17 v18 v133 wr => ∃ t : Nat, t ≤ 64 ∧ ∃ v : S8, Hid (turns s (sch1 b 48) t = v) ∧ v133 = .int .i64 t ∧
            v11 = .int .u32 v.a.toNat ∧ v12 = .int .u32 v.b.toNat ∧ v13 = .int .u32 v.c.toNat ∧ v14 = .int .u32 v.d.toNat ∧ v15 = .int .u32 v.e.toNat ∧ v16 = .int .u32 v.f.toNat ∧ v17 = .int .u32 v.g.toNat ∧ v18 = .int .u32 v.h.toNat ∧
            Has wr g 74 85 (hashF s b fill size) ∧ Has wr w.heap.size 64 86 (wordsF (sch1 b 48)) ∧ Fr Nil w wr) (fun _ _ _ _ _ _ _ _ v _ => 64 - (intOf v).toNat)
          case atStart => exact ⟨0, by omega, s, rfl, rfl, rfl, rfl, rfl, rfl, rfl, rfl, rfl, rfl, hHq, hWq, hFq⟩
          case round =>
            clear hHq hWq hFq
            obtain ⟨t, ht, v, HV, rfl, rfl, rfl, rfl, rfl, rfl, rfl, rfl, rfl, hH1, hW1, hF1⟩ := hrel
            by_cases hlt : t < 64
            ·
              obtain ⟨kt, hkt⟩ : ∃ x, roundKs.getD t 0 = x := ⟨_, rfl⟩
              obtain ⟨wt, hwt⟩ : ∃ x, (sch1 b 48).getD t 0 = x := ⟨_, rfl⟩
              have LK : wr.cell? ⟨gk, t, none⟩ = some (.int .u32 (roundKs.getD t 0).toNat) := (hF1.has hK (fun h => h)).cell _ hlt
              have LW : wr.cell? ⟨w.heap.size, t, none⟩ = some (.int .u32 ((sch1 b 48).getD t 0).toNat) := hW1.cell _ hlt
              rw [hkt] at LK
              rw [hwt] at LW
              have HX := Lib.hid (And.intro hkt hwt)
              clear hkt hwt
              go_wp2
              go_quiet ((go_at_call 83; exact Calls.quiet_of (rotl_k _ _ (by decide) (by decide) _)))
              go_wp2_with (go_at_call 83; refine (rotl_s _ _ (by decide) (by decide) _).mono ?_; rintro e w' ⟨rfl, rfl⟩)
              go_roundw
              case rel =>
                repeat apply Exists.intro
                refine ⟨⟨t + 1, by omega, rnd v kt wt, ?_, rfl, rfl, rfl, rfl, rfl, rfl, rfl, rfl, rfl, hH1.drewN nq, hW1.drewN nq, hF1.drewN nq⟩,
                  congrArg (Value.int .u32) (rnd_a v kt wt), rfl, rfl, rfl, congrArg (Value.int .u32) (rnd_e v kt wt), rfl, rfl, rfl, rfl, rfl, rfl, by go_num⟩
                obtain ⟨hk, hw⟩ := HX.out
                show rnd _ (roundKs.getD t 0) ((sch1 b 48).getD t 0) = _
                rw [HV.out, hk, hw]
              case measure => simp [intOf]; omega
            · have h64 : t = 64 := by omega
              subst h64
              go_wp2
              go_loopw [207] (fun v207 wi => ∃ n : Nat, n ≤ 8 ∧ v207 = .int .i64 n ∧ Has wi g 74 85 (hashG s v b fill size n) ∧ Fr (· = g) w wi) (fun v _ => 8 - (intOf v).toNat)
              case atStart => exact ⟨0, by omega, rfl, hH1.congr fun i hi => by simp [hashG], hF1.nil⟩
              case round =>
                clear hH1 hW1 hF1
                obtain ⟨n, hn, rfl, hH2, hF2⟩ := hrel
                by_cases hln : n < 8
                · have hix := index8 v n hln
                  have hc : wr.cell? ⟨g, n, none⟩ = some (.int .u32 (s.get n).toNat) := by
                    rw [hH2.cell _ (by omega)]
                    simp [hashG, hashF, hln, encW]
                  have hf := hH2.free n
                  go_wp2
                  refine QTail.region (fun w' => ∃ k, w' = wr.drewN k) 11 (by kernel_rfl) (by kernel_rfl) ⟨1, rfl⟩ ?_
                  simp only [List.take_succ_cons, List.take_zero, List.drop_succ_cons, List.drop_zero]
                  repeat (first | go_big_quiet_step (fail) | quiet_step (fail))
                  refine wpQuiet_nil ?_
                  rintro _ ⟨nq2, rfl⟩
                  go_wp2
                  rw [add_w]
                  refine ⟨⟨n + 1, by omega, by go_num, ((hH2.drewN nq2).put n _).congr fun j hj => ?_, (hF2.drewN nq2).setCell _ _ (.inr rfl)⟩, by simp [intOf]; omega⟩
                  unfold hashG
                  by_cases e : j = n
                  · subst e; rw [if_pos rfl, if_pos (by omega)]; rfl
                  · rw [if_neg e]
                    by_cases e2 : j < n
                    · rw [if_pos e2, if_pos (by omega)]
                    · rw [if_neg e2, if_neg (by omega)]
                · have h8 : n = 8 := by omega
                  subst h8
                  have hc : wr.cell? ⟨g, 72, none⟩ = some (.int .i64 fill) := by
                    rw [hH2.cell _ (by omega)]
                    simp [hashG, hashF]
                  have hf := hH2.free 72
                  go_wp2
                  go_end0
                  refine ⟨rfl, (hH2.put 72 _).congr fun j hj => ?_, hF2.setCell _ _ (.inr rfl)⟩
                  have hv : squeeze s b = s.add v := by rw [← HV.out]; rfl
                  rw [hv]
                  unfold hashG
                  by_cases e : j = 72
                  · subst e; rw [if_pos rfl]; rfl
                  · rw [if_neg e]
                    by_cases e2 : j < 8
                    · rw [if_pos e2, add_get _ _ _ e2]
                      unfold hashF
                      rw [if_pos e2]
                    · rw [if_neg e2]
                      unfold hashF
                      rw [if_neg e2, if_neg e2]
                      by_cases e3 : j < 72
                      · rw [if_pos e3, if_pos e3]
                      · rw [if_neg e3, if_neg e3, if_neg e, if_neg e]
end Go.Proofs.YtldiecblcnoleaaDoor.Sha
