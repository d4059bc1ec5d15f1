/- wire.Reader: its calls. Condition: the reader lies in memory. -/
import Derived.Test.YtebbmpomccjbnaaWire06
namespace Go.Proofs.Ytebbmpomccjbnaa.Wire
open Go.RowKit Go.Proofs.Ytebbmpomccjbnaa.Mem
set_option linter.unusedVariables false
set_option linter.unusedSimpArgs false

/-- A number is read: the error, the number, how many bytes it takes. i bytes are read, n is what they make. -/
def num : Nat → List UInt8 → Nat → Nat → Int × Nat × Nat
  | 0, _, _, _ => (61, 0, 0)
  | _ + 1, [], _, _ => (60, 0, 0)
  | k + 1, c :: r, i, n =>
    if i = 9 ∧ 1 < c.toNat then (61, 0, 0)
    else if 128 ≤ c.toNat then num k r (i + 1) (n + c.toNat % 128 * 128 ^ i)
    else if c.toNat = 0 ∧ 0 < i then (61, 0, 0)
    else (0, n + c.toNat % 128 * 128 ^ i, i + 1)

def numOf (s : ByteArray) : Int × Nat × Nat := num 10 s.data.toList 0 0

/-- The number, the error, what is left, the error that is kept. -/
def numV (s : ByteArray) (bad : Int) : Nat := if bad = 0 then (if (numOf s).1 = 0 then (numOf s).2.1 else 0) else 0
def numE (s : ByteArray) (bad : Int) : Int := if bad = 0 then (numOf s).1 else bad
def numS (s : ByteArray) (bad : Int) : ByteArray := if bad = 0 then (if (numOf s).1 = 0 then s.extract (numOf s).2.2 s.size else ⟨#[]⟩) else s

/-- .. of Take. -/
def takes (s : ByteArray) (bad : Int) (n : Int) : Bool := decide (bad = 0 ∧ 0 ≤ n ∧ n ≤ s.size)
def takeV (s : ByteArray) (bad n : Int) : ByteArray := if takes s bad n then s.extract 0 n.toNat else ⟨#[]⟩
def takeE (s : ByteArray) (bad n : Int) : Int := if bad ≠ 0 then bad else if takes s bad n then 0 else 60
def takeS (s : ByteArray) (bad n : Int) : ByteArray := if bad ≠ 0 then s else if takes s bad n then s.extract n.toNat s.size else ⟨#[]⟩

def rdF (s : ByteArray) (bad : Int) (i : Nat) : Value := if i = 0 then .string s else .int .i64 bad
abbrev Rd (w : World) (g : Nat) (s : ByteArray) (bad : Int) : Prop := Has w g 2 74 (rdF s bad)

theorem Rd.left {w : World} {g : Nat} {s : ByteArray} {bad : Int} (h : Rd w g s bad) : w.cell? ⟨g, 0, none⟩ = some (.string s) := h.cell 0 (by omega)
theorem Rd.bad {w : World} {g : Nat} {s : ByteArray} {bad : Int} (h : Rd w g s bad) : w.cell? ⟨g, 1, none⟩ = some (.int .i64 bad) := h.cell 1 (by omega)

theorem Rd.set {w : World} {g : Nat} {s : ByteArray} {bad : Int} (h : Rd w g s bad) (t : ByteArray) : Rd (w.setCell ⟨g, 0, none⟩ (.string t)) g t bad :=
  (h.put 0 _).congr fun j hj => by
    have e : j = 0 ∨ j = 1 := by omega
    rcases e with rfl | rfl <;> rfl

theorem Rd.setBad {w : World} {g : Nat} {s : ByteArray} {bad : Int} (h : Rd w g s bad) (e : Int) : Rd (w.setCell ⟨g, 1, none⟩ (.int .i64 e)) g s e :=
  (h.put 1 _).congr fun j hj => by
    have e : j = 0 ∨ j = 1 := by omega
    rcases e with rfl | rfl <;> rfl

theorem newReader_calls (s : ByteArray) (w : World) : Calls Try.prog 10 #[.string s] w fun e w' => e = .returned (.pointer (some ⟨w.heap.size, 0, none⟩)) ∧ Rd w' w.heap.size s 0 ∧ Fr Nil w w' := by
  go_enter Try.func10, Try.ntmps10
  go_wp2
  go_ret
  refine ⟨rfl, Has.new _ _ _ _ _ rfl (fun i hi => ?_), Fr.alloc1 _ _⟩
  have e : i = 0 ∨ i = 1 := by omega
  rcases e with rfl | rfl <;> rfl

theorem fail_calls (g : Nat) (s : ByteArray) (x : Int) (w : World) (h : Rd w g s 0) : Calls Try.prog 34 #[.pointer (some ⟨g, 0, none⟩), .int .i64 x] w fun e w' => e = .returned (.int .i64 x) ∧ Rd w' g ⟨#[]⟩ x ∧ Fr (· = g) w w' := by
  have c0 := h.left
  have c1 := h.bad
  have f0 := h.free 0
  have f1 := h.free 1
  go_enter Try.func34, Try.ntmps34
  go_wp2
  go_ret
  exact ⟨rfl, (h.setBad x).set _, ((Fr.refl (· = g) _).setCell ⟨g, 1, none⟩ _ (.inr rfl)).setCell ⟨g, 0, none⟩ _ (.inr rfl)⟩

theorem left_calls (g : Nat) (s : ByteArray) (bad : Int) (w : World) (h : Rd w g s bad) : Calls Try.prog 15 #[.pointer (some ⟨g, 0, none⟩)] w fun e w' => e = .returned (.int .i64 s.size) ∧ Fr Nil w w' := by
  have c0 := h.left
  go_enter Try.func15, Try.ntmps15
  go_wp2
  go_ret
  exact ⟨rfl, Fr.refl _ _⟩

set_option maxRecDepth 100000 in
theorem take_calls (g : Nat) (s : ByteArray) (bad n : Int) (w : World) (h : Rd w g s bad) (hs : s.size ≤ 9223372036854775807) : Calls Try.prog 13 #[.pointer (some ⟨g, 0, none⟩), .int .i64 n] w fun e w' =>
    e = .returned (.tuple #[.string (takeV s bad n), .int .i64 (takeE s bad n)]) ∧ Rd w' g (takeS s bad n) (takeE s bad n) ∧ Fr (· = g) w w' := by
  have c0 := h.left
  have c1 := h.bad
  have f0 := h.free 0
  go_enter Try.func13, Try.ntmps13
  by_cases hbad : bad = 0
  · subst hbad
    by_cases hn : 0 ≤ n ∧ n ≤ s.size
    · obtain ⟨m, rfl⟩ : ∃ m : Nat, n = m := ⟨n.toNat, by omega⟩
      have hm : m ≤ s.size := by omega
      have ht : takes s 0 (m : Int) = true := decide_eq_true ⟨rfl, hn⟩
      go_wp2
      go_ret2
      have e1 : takeV s 0 (m : Int) = s.extract 0 m := by unfold takeV; rw [if_pos ht]; rfl
      have e2 : takeE s 0 (m : Int) = 0 := by unfold takeE; rw [if_neg (by simp), if_pos ht]
      have e3 : takeS s 0 (m : Int) = s.extract m s.size := by unfold takeS; rw [if_neg (by simp), if_pos ht]; rfl
      rw [e1, e2, e3]
      exact ⟨rfl, h.set _, (Fr.refl (· = g) _).setCell ⟨g, 0, none⟩ _ (.inr rfl)⟩
    · have ht : takes s 0 n = false := decide_eq_false (fun h => hn h.2)
      have e1 : takeV s 0 n = ⟨#[]⟩ := by unfold takeV; rw [ht]; rfl
      have e2 : takeE s 0 n = 60 := by unfold takeE; rw [if_neg (by simp), ht]; rfl
      have e3 : takeS s 0 n = ⟨#[]⟩ := by unfold takeS; rw [if_neg (by simp), ht]; rfl
      rw [e1, e2, e3]
      clear e1 e2 e3 ht
      go_wp2_with (go_at_call 34; refine (fail_calls g s 60 _ h).mono ?_; rintro e w2 ⟨rfl, h2, hF2⟩)
      all_goals (go_ret2; exact ⟨rfl, h2, hF2⟩)
  · have hne : (bad == 0) = false := by rw [beq_eq_false_iff_ne]; exact hbad
    have ht : takes s bad n = false := decide_eq_false (fun h => hbad h.1)
    have e1 : takeV s bad n = ⟨#[]⟩ := by unfold takeV; rw [ht]; rfl
    have e2 : takeE s bad n = bad := by unfold takeE; rw [if_pos hbad]
    have e3 : takeS s bad n = s := by unfold takeS; rw [if_pos hbad]
    rw [e1, e2, e3]
    clear e1 e2 e3 ht
    go_wp2
    refine QTail.quiet (fun w' => ∃ n, w' = w.drewN n) (by kernel_rfl) (by kernel_rfl) ⟨1, rfl⟩ ?_
    repeat (first | go_big_quiet_step (fail) | quiet_step (fail))
    refine wpQuiet_nil ?_
    rintro _ ⟨x, rfl⟩
    go_wp2
    go_ret2
    exact ⟨rfl, h.drewN x, (Fr.refl _ _).drewN x⟩

theorem num_drop {l : List UInt8} {i k n : Nat} (h : i < l.length) : num (k + 1) (l.drop i) i n =
    if i = 9 ∧ 1 < (l.getD i 0).toNat then (61, 0, 0)
    else if 128 ≤ (l.getD i 0).toNat then num k (l.drop (i + 1)) (i + 1) (n + (l.getD i 0).toNat % 128 * 128 ^ i)
    else if (l.getD i 0).toNat = 0 ∧ 0 < i then (61, 0, 0)
    else (0, n + (l.getD i 0).toNat % 128 * 128 ^ i, i + 1) := by
  have e : l.getD i 0 = l[i] := by simp [List.getD, h]
  rw [List.drop_eq_getElem_cons h, e]
  rfl

theorem num_end {l : List UInt8} {i k n : Nat} (h : l.length ≤ i) : num (k + 1) (l.drop i) i n = (60, 0, 0) := by
  rw [List.drop_eq_nil_of_le h]
  rfl

theorem and_fin : ∀ x : Fin 256, bits .and .u8 (x.val : Int) 127 = (x.val : Int) % 128 := by decide +kernel
theorem and_127 (c : Nat) (h : c < 256) : bits .and .u8 (c : Int) 127 = (c : Int) % 128 := and_fin ⟨c, h⟩

theorem or_shl (n m i : Nat) (hn : n < 2 ^ (7 * i)) (h : m * 2 ^ (7 * i) < 18446744073709551616) (h64 : n < 18446744073709551616) (hs : n + m * 2 ^ (7 * i) < 18446744073709551616) :
    bits .or .u64 (n : Int) (((m * 2 ^ (7 * i) : Nat)) : Int) = ((n + m * 128 ^ i : Nat) : Int) := by
  have hw : ∀ x : Int, IntKind.u64.wrap x = x % 18446744073709551616 := fun _ => rfl
  have e : (128 : Nat) ^ i = 2 ^ (7 * i) := by rw [Nat.pow_mul]
  rw [e]
  have hor : n ||| m * 2 ^ (7 * i) = n + m * 2 ^ (7 * i) := by
    rw [← Nat.shiftLeft_eq, Nat.or_comm, ← Nat.shiftLeft_add_eq_or_of_lt hn, Nat.add_comm]
  show IntKind.u64.wrap (((BitVec.ofInt 64 (n : Int) ||| BitVec.ofInt 64 ((m * 2 ^ (7 * i) : Nat) : Int)).toNat : Nat) : Int) = _
  rw [BitVec.toNat_or, BitVec.ofInt_natCast, BitVec.ofInt_natCast, BitVec.toNat_ofNat, BitVec.toNat_ofNat, Nat.mod_eq_of_lt (show n < 2 ^ 64 from h64), Nat.mod_eq_of_lt (show m * 2 ^ (7 * i) < 2 ^ 64 from h), hor, hw]
  omega

set_option maxRecDepth 100000 in
set_option maxHeartbeats 1000000 in
theorem readNumber_calls (g : Nat) (s : ByteArray) (bad : Int) (w : World) (h : Rd w g s bad) (hs : s.size ≤ 9223372036854775807) : Calls Try.prog 11 #[.pointer (some ⟨g, 0, none⟩)] w fun e w' =>
    e = .returned (.tuple #[.int .u64 (numV s bad : Int), .int .i64 (numE s bad)]) ∧ Rd w' g (numS s bad) (numE s bad) ∧ Fr (· = g) w w' := by
  have c0 := h.left
  have c1 := h.bad
  have f0 := h.free 0
  go_enter Try.func11, Try.ntmps11
  by_cases hbad : bad = 0
  · subst hbad
    have hV : numV s 0 = if (numOf s).1 = 0 then (numOf s).2.1 else 0 := if_pos rfl
    have hE : numE s 0 = (numOf s).1 := if_pos rfl
    have hS : numS s 0 = if (numOf s).1 = 0 then s.extract (numOf s).2.2 s.size else ⟨#[]⟩ := if_pos rfl
    generalize numV s 0 = V at *
    generalize numE s 0 = E at *
    generalize numS s 0 = S' at *
    have HV := Lib.hid hV
    have HE := Lib.hid hE
    have HS := Lib.hid hS
    clear hV hE hS
    go_wp2
    go_loop [4, 16] (fun v4 v16 => ∃ i n : Nat, i ≤ 10 ∧ n < 2 ^ (7 * i) ∧ v16 = .int .i64 i ∧ v4 = .int .u64 n ∧ Hid (numOf s = num (10 - i) (s.data.toList.drop i) i n) ∧ i ≤ s.size) (fun _ v => 10 - (intOf v).toNat)
    case atStart => exact ⟨0, 0, by omega, by simp, rfl, rfl, rfl, by omega⟩
    case round =>
      obtain ⟨i, n, hi, hn, rfl, rfl, HN, his⟩ := hrel
      have hfail : ∀ x : Int, (numOf s).1 = x → x ≠ 0 → V = 0 ∧ E = x ∧ S' = ⟨#[]⟩ := fun x h h0 => by
        rw [HV.out, HE.out, HS.out, if_neg (by rw [h]; exact h0), if_neg (by rw [h]; exact h0)]
        exact ⟨rfl, h, rfl⟩
      by_cases hlt : i < 10
      · by_cases hend : i = s.size
        · obtain ⟨rfl, rfl, rfl⟩ := hfail 60 (by
            rw [HN.out, show 10 - i = (9 - i) + 1 by omega, num_end (by rw [← Lib.size_eq]; omega)]) (by decide)
          go_wp2_with (go_at_call 34; refine (fail_calls g s 60 _ h).mono ?_; rintro e w2 ⟨rfl, h2, hF2⟩)
          all_goals (go_ret2; exact ⟨rfl, h2, hF2⟩)
        · have hil : i < s.size := by omega
          have hne : ((i : Int) == s.size) = false := by rw [beq_eq_false_iff_ne]; omega
          have hstep := num_drop (l := s.data.toList) (i := i) (k := 9 - i) (n := n) (by rw [← Lib.size_eq]; exact hil)
          have hNN : numOf s = num (9 - i + 1) (s.data.toList.drop i) i n := by rw [HN.out, show 10 - i = (9 - i) + 1 by omega]
          rw [← hNN] at hstep
          have hix : (s[i]'hil).toNat = (s.data.toList.getD i 0).toNat := by
            have h2 : i < s.data.toList.length := by rw [← Lib.size_eq]; exact hil
            rw [List.getD_eq_getElem?_getD, List.getElem?_eq_getElem h2]
            rfl
          have hc256 : (s.data.toList.getD i 0).toNat < 256 := (s.data.toList.getD i 0).toBitVec.isLt
          generalize (s.data.toList.getD i 0).toNat = c at *
          have hand := and_127 c hc256
          have hE1 : ∀ (e : Int) (v k : Nat), numOf s = (e, v, k) → e = 0 → V = v ∧ E = 0 ∧ S' = s.extract k s.size := fun e v k h h0 => by
            subst h0
            rw [HV.out, HE.out, HS.out, h]
            exact ⟨rfl, rfl, rfl⟩
          have HSTEP := Lib.hid hstep
          clear hstep hNN HN
          by_cases hbad9 : i = 9 ∧ 1 < c
          · have hr : (numOf s).1 = 61 := by rw [HSTEP.out, if_pos hbad9]
            obtain ⟨rfl, rfl, rfl⟩ := hfail 61 hr (by decide)
            have h9b : ((i : Int) == 9) = true := by rw [beq_iff_eq]; omega
            have hc1 : 1 < c := hbad9.2
            clear hbad9 hr
            go_wp2_with (go_at_call 34; refine (fail_calls g s 61 _ h).mono ?_; rintro e w2 ⟨rfl, h2, hF2⟩)
            all_goals (go_ret2; exact ⟨rfl, h2, hF2⟩)
          · have hm : c % 128 * 2 ^ (7 * i) < 2 ^ 64 - 2 ^ (7 * i) + 1 := by
              rcases Nat.lt_or_ge i 9 with h8 | h8
              · have h1 : 2 ^ (7 * i) ≤ 2 ^ 56 := Nat.pow_le_pow_right (by decide) (by omega)
                have h2 : c % 128 * 2 ^ (7 * i) ≤ 127 * 2 ^ (7 * i) := Nat.mul_le_mul_right _ (by omega)
                omega
              · have hc1 : c ≤ 1 := by omega
                have hi9 : i = 9 := by omega
                have h2 : c % 128 * 2 ^ (7 * i) ≤ 1 * 2 ^ (7 * i) := Nat.mul_le_mul_right _ (by omega)
                rw [hi9] at h2 ⊢
                omega
            have hp : 2 ^ (7 * i) ≤ 2 ^ 63 := Nat.pow_le_pow_right (by decide) (by omega)
            have hor := or_shl n (c % 128) i hn (by omega) (by omega) (by omega)
            have hwr : IntKind.u64.wrap ((c : Int) % 128 * 2 ^ (7 * i)) = ((c % 128 * 2 ^ (7 * i) : Nat) : Int) := by
              have hw : ∀ x : Int, IntKind.u64.wrap x = x % 18446744073709551616 := fun _ => rfl
              have e : (c : Int) % 128 * 2 ^ (7 * i) = ((c % 128 * 2 ^ (7 * i) : Nat) : Int) := by
                rw [Int.natCast_mul, Int.natCast_emod, Int.natCast_pow]
                rfl
              rw [e, hw]
              omega
            rw [← hwr] at hor
            have hn2 : n + c % 128 * 128 ^ i < 2 ^ (7 * (i + 1)) := by
              rw [Nat.pow_mul, show (2 : Nat) ^ 7 = 128 from rfl, Nat.pow_succ]
              rw [Nat.pow_mul, show (2 : Nat) ^ 7 = 128 from rfl] at hn
              have h2 : c % 128 * 128 ^ i ≤ 127 * 128 ^ i := Nat.mul_le_mul_right _ (by omega)
              omega
            generalize n + c % 128 * 128 ^ i = n' at *
            clear hwr hm hp
            have hi8 : 128 ≤ c → i ≤ 8 := fun _ => by omega
            obtain ⟨b9, h9b⟩ : ∃ b, ((i : Int) == 9) = b := ⟨_, rfl⟩
            have h9c : b9 = true → c ≤ 1 := fun h => by
              rw [← h9b, beq_iff_eq] at h
              omega
            by_cases hc : 128 ≤ c
            · have hi8' := hi8 hc
              have hb9 : ((i : Int) == 9) = false := by rw [beq_eq_false_iff_ne]; omega
              rw [if_neg hbad9, if_pos hc] at HSTEP
              clear h9b h9c hi8 hbad9
              go_wp2_with fail
              refine ⟨⟨i + 1, n', by omega, hn2, by go_num, rfl, ?_, by omega⟩, by simp [intOf]; omega⟩
              show numOf s = num (10 - (i + 1)) _ _ _
              rw [HSTEP.out, show 10 - (i + 1) = 9 - i by omega]
            · by_cases hc0 : c = 0 ∧ 0 < i
              · have hr : (numOf s).1 = 61 := by rw [HSTEP.out, if_neg hbad9, if_neg hc, if_pos hc0]
                obtain ⟨rfl, rfl, rfl⟩ := hfail 61 hr (by decide)
                obtain ⟨hc0, hi0⟩ := hc0
                have hc0b : ((c : Int) == 0) = true := by rw [beq_iff_eq]; omega
                have hc1 : ¬ 1 < c := by omega
                have hcl : c ≤ 0 := by omega
                clear hc0 hr h9c hi8 hbad9
                cases b9
                · go_wp2_with (go_at_call 34; refine (fail_calls g s 61 _ h).mono ?_; rintro e w2 ⟨rfl, h2, hF2⟩)
                  all_goals (go_ret2; exact ⟨rfl, h2, hF2⟩)
                · go_wp2_with (go_at_call 34; refine (fail_calls g s 61 _ h).mono ?_; rintro e w2 ⟨rfl, h2, hF2⟩)
                  all_goals (go_ret2; exact ⟨rfl, h2, hF2⟩)
              · rw [if_neg hbad9, if_neg hc, if_neg hc0] at HSTEP
                obtain ⟨rfl, rfl, rfl⟩ := hE1 0 n' (i + 1) HSTEP.out rfl
                have h9d : b9 = true → i = 9 := fun h => by
                  rw [← h9b, beq_iff_eq] at h
                  omega
                rcases Nat.eq_zero_or_pos c with hcz | hcp
                · have hi0 : ¬ 0 < i := by omega
                  have hi00 : i ≤ 0 := by omega
                  have hc0b : ((c : Int) == 0) = true := by rw [beq_iff_eq]; omega
                  have hcl : c ≤ 0 := by omega
                  have hb9 : b9 = false := by
                    cases b9
                    · rfl
                    · have := h9d rfl
                      omega
                  subst hb9
                  clear hcz hc0 hi8 hbad9 HSTEP h9d h9c hE1 hfail
                  go_wp2
                  go_ret2
                  exact ⟨rfl, h.set _, (Fr.refl (· = g) _).setCell ⟨g, 0, none⟩ _ (.inr rfl)⟩
                · have hc0b : ((c : Int) == 0) = false := by rw [beq_eq_false_iff_ne]; omega
                  clear hc0 hi8 hbad9 HSTEP h9d hE1 hfail
                  cases b9
                  · clear h9c
                    go_wp2
                    go_ret2
                    exact ⟨rfl, h.set _, (Fr.refl (· = g) _).setCell ⟨g, 0, none⟩ _ (.inr rfl)⟩
                  · have hc1 := h9c rfl
                    clear h9c
                    go_wp2
                    go_ret2
                    exact ⟨rfl, h.set _, (Fr.refl (· = g) _).setCell ⟨g, 0, none⟩ _ (.inr rfl)⟩
      · have hi10 : 10 - i = 0 := by omega
        rw [hi10] at HN
        obtain ⟨rfl, rfl, rfl⟩ := hfail 61 (by rw [HN.out]; rfl) (by decide)
        clear hi10
        go_wp2_with (go_at_call 34; refine (fail_calls g s 61 _ h).mono ?_; rintro e w2 ⟨rfl, h2, hF2⟩)
        all_goals (go_ret2; exact ⟨rfl, h2, hF2⟩)
  · have hne : (bad == 0) = false := by rw [beq_eq_false_iff_ne]; exact hbad
    have e1 : numV s bad = 0 := if_neg hbad
    have e2 : numE s bad = bad := if_neg hbad
    have e3 : numS s bad = s := if_neg hbad
    rw [e1, e2, e3]
    clear e1 e2 e3
    go_wp2
    refine QTail.quiet (fun w' => ∃ n, w' = w.drewN n) (by kernel_rfl) (by kernel_rfl) ⟨1, rfl⟩ ?_
    repeat (first | go_big_quiet_step (fail) | quiet_step (fail))
    refine wpQuiet_nil ?_
    rintro _ ⟨x, rfl⟩
    go_wp2
    go_ret2
    exact ⟨rfl, h.drewN x, (Fr.refl _ _).drewN x⟩

end Go.Proofs.Ytebbmpomccjbnaa.Wire
