/- massiflaw06.WireReads: it returns true. Conditions: the script can be read; sizes. -/
import Derived.Test.YtebbmpomccjbnaaWireLaw
namespace Go.Proofs.Ytebbmpomccjbnaa.Wire
open Go.RowKit Go.Proofs.Ytebbmpomccjbnaa.Mem
set_option linter.unusedVariables false
set_option linter.unusedSimpArgs false

/-- Both readers, the program's and the reference's, in memory: reader k of text T k stands where the reference stands, at q k, with the error e k. -/
structure St (w0 wr : World) (RB WB : Nat) (G : Nat → Nat) (T : Nat → ByteArray) (q : Nat → Nat) (e : Nat → Int) : Prop where
  rd : ∀ k, k < 2 → Rd wr (G k) (rest (T k) (q k) (e k)) (e k)
  hr : Has wr RB 2 28 (fun k => .pointer (some ⟨G k, 0, none⟩))
  hw : Has wr WB 6 32 (fun j => refF (T (j / 3)) (q (j / 3)) (e (j / 3)) (j % 3))
  hq : ∀ k, k < 2 → q k ≤ (T k).size
  fr : Fr Nil w0 wr

/-- Behind a call of one pair. -/
def upd {α : Type} (k : Nat) (x : α) (f : Nat → α) (m : Nat) : α := if m = k then x else f m

theorem St.fr0 {w0 wr w' : World} {RB WB : Nat} {G : Nat → Nat} {T : Nat → ByteArray} {q : Nat → Nat} {e : Nat → Int} (h : St w0 wr RB WB G T q e) (hf : Fr Nil wr w') : St w0 w' RB WB G T q e :=
  ⟨fun k hk => hf.has (h.rd k hk) (fun h => h), hf.has h.hr (fun h => h), hf.has h.hw (fun h => h), h.hq, h.fr.then0 hf⟩

theorem upd_self {α : Type} (k : Nat) (x : α) (f : Nat → α) : upd k x f k = x := if_pos rfl

theorem St.step {w0 wr w6 w7 w8 : World} {RB : Nat} {G : Nat → Nat} {T : Nat → ByteArray} {q : Nat → Nat} {e : Nat → Int} {K q' : Nat} {e' : Int} {s' : ByteArray} (h : St w0 wr RB (RB + 1) G T q e) (hK : K < 2)
    (hG : ∀ k, k < 2 → w0.heap.size ≤ G k ∧ G k < RB) (hne : G 0 ≠ G 1) (hRB : w0.heap.size ≤ RB) (hR6 : Rd w6 (G K) s' e') (hF6 : Fr (· = G K) wr w6) (hF7 : Fr Nil w6 w7)
    (hW8 : Has w8 (RB + 1) 6 32 (fun j => if K * 3 ≤ j ∧ j < K * 3 + 3 then refF (T K) q' e' (j - K * 3) else refF (T (j / 3)) (q (j / 3)) (e (j / 3)) (j % 3))) (hF8 : Fr (· = RB + 1) w7 w8)
    (hq : q' ≤ (T K).size) (hrest : rest (T K) q' e' = s') : St w0 w8 RB (RB + 1) G T (upd K q' q) (upd K e' e) := by
  have hinj : ∀ k, k < 2 → k ≠ K → G k ≠ G K := fun k hk hkK => by
    have : (k = 0 ∧ K = 1) ∨ (k = 1 ∧ K = 0) := by omega
    rcases this with ⟨rfl, rfl⟩ | ⟨rfl, rfl⟩
    · exact hne
    · exact fun h => hne h.symm
  refine ⟨fun k hk => ?_, ?_, ?_, fun k hk => ?_, ?_⟩
  · have hg := hG k hk
    by_cases hkK : k = K
    · subst hkK
      unfold upd
      rw [if_pos rfl, if_pos rfl, hrest]
      exact hF8.has (hF7.has hR6 (fun h => h)) (by show ¬ (G k = RB + 1); omega)
    · unfold upd
      rw [if_neg hkK, if_neg hkK]
      exact hF8.has (hF7.has (hF6.has (h.rd k hk) (hinj k hk hkK)) (fun h => h)) (by show ¬ (G k = RB + 1); omega)
  · have hg := hG K hK
    exact hF8.has (hF7.has (hF6.has h.hr (by show ¬ (RB = G K); omega)) (fun h => h)) (by show ¬ (RB = RB + 1); omega)
  · refine hW8.congr fun j hj => ?_
    unfold upd
    by_cases hc : K * 3 ≤ j ∧ j < K * 3 + 3
    · have h1 : j / 3 = K := by omega
      rw [if_pos hc, h1, if_pos rfl, if_pos rfl, show j % 3 = j - K * 3 by omega]
    · have h1 : ¬ (j / 3 = K) := by omega
      rw [if_neg hc, if_neg h1, if_neg h1]
  · unfold upd
    by_cases hkK : k = K
    · subst hkK
      rw [if_pos rfl]
      exact hq
    · rw [if_neg hkK]
      exact h.hq k hk
  · exact ((h.fr.then1 hF6 (.inl (hG K hK).1)).then0 hF7).then1 hF8 (.inl (by omega))

theorem takeQ_within (t : ByteArray) (q : Nat) (bad n : Int) (hq : q ≤ t.size) : takeQ (rest t q bad) q bad n ≤ t.size := by
  unfold takeQ
  by_cases h : takes (rest t q bad) bad n = true
  · rw [if_pos h]
    obtain ⟨h1, h2, h3⟩ := of_decide_eq_true h
    rw [rest_size t q bad hq h1] at h3
    omega
  · rw [if_neg h]
    exact hq

theorem takeQ_rest (t : ByteArray) (q : Nat) (bad n : Int) (hq : q ≤ t.size) : rest t (takeQ (rest t q bad) q bad n) (takeE (rest t q bad) bad n) = takeS (rest t q bad) bad n := by
  by_cases hbad : bad = 0
  · subst hbad
    by_cases h : takes (rest t q 0) 0 n = true
    · have h1 : takeE (rest t q 0) 0 n = 0 := by unfold takeE; rw [if_neg (by decide), if_pos h]
      have h2 : takeQ (rest t q 0) q 0 n = q + n.toNat := by unfold takeQ; rw [if_pos h]
      have h3 : takeS (rest t q 0) 0 n = (rest t q 0).extract n.toNat (rest t q 0).size := by unfold takeS; rw [if_neg (by decide), if_pos h]
      rw [h1, h2, h3, rest_ok t q _ hq]
    · have h1 : takeE (rest t q 0) 0 n = 60 := by unfold takeE; rw [if_neg (by decide), if_neg h]
      have h3 : takeS (rest t q 0) 0 n = ⟨#[]⟩ := by unfold takeS; rw [if_neg (by decide), if_neg h]
      rw [h1, h3]
      exact rest_bad _ _ _ (by decide)
  · have h1 : takeE (rest t q bad) bad n = bad := by unfold takeE; rw [if_pos hbad]
    have h3 : takeS (rest t q bad) bad n = rest t q bad := by unfold takeS; rw [if_pos hbad]
    rw [h1, h3, rest_bad _ _ _ hbad, rest_bad _ _ _ hbad]

theorem rest_le (t : ByteArray) (q : Nat) (e : Int) : (rest t q e).size ≤ t.size := by
  unfold rest
  split
  · rw [ByteArray.size_extract]; omega
  · exact Nat.zero_le _

theorem ref_cell {w : World} {b : Nat} {T : Nat → ByteArray} {q : Nat → Nat} {e : Nat → Int} (h : Has w b 6 32 (fun j => refF (T (j / 3)) (q (j / 3)) (e (j / 3)) (j % 3))) (K j : Nat) (hK : K < 2) (hj : j < 3) :
    w.cell? ⟨b, K * 3 + j, none⟩ = some (refF (T K) (q K) (e K) j) := by
  rw [h.cell _ (by omega), show (K * 3 + j) / 3 = K by omega, show (K * 3 + j) % 3 = j by omega]

set_option maxRecDepth 100000 in
set_option maxHeartbeats 2000000 in
theorem wireReads_calls (N : Nat) (a b : ByteArray) (A : Option Addr) (n cap : Nat) (sc : Nat → Int) (w : World) (hN : N < 18446744073709551616) (ha : a.size ≤ 4611686018427387904) (hb : b.size ≤ 4611686018427387904) (hn : n ≤ 4611686018427387904)
    (hsc : ∀ j, -9223372036854775808 ≤ sc j ∧ sc j < 9223372036854775808) (hA : SlAt w A (n * 2) (fun j => .int .i64 (sc j))) :
    Calls Try.prog 3 #[.int .u64 (N : Int), .string a, .string b, .slice A n cap] w fun e w' => e = .returned (.bool true) ∧ Fr Nil w w' := by
  go_enter Try.func3, Try.ntmps3
  go_wp2_with fail
  refine (fixed_calls _).mono ?_
  rintro e w1 ⟨rfl, hF⟩
  obtain ⟨y, hy⟩ : ∃ y, strB (enc 10 N) = y := ⟨_, rfl⟩
  have c1 := fun w => number_calls N w hN
  have c2 := fun w => rnumber_calls N w hN
  rw [hy] at c1 c2
  have C1 := Lib.hid c1
  have C2 := Lib.hid c2
  clear hy c1 c2
  go_wp2_with fail
  refine (C1.out _).mono ?_
  rintro e w2 ⟨rfl, hx⟩
  replace hF := hF.then0 hx
  clear hx
  go_wp2_with fail
  refine (C2.out _).mono ?_
  rintro e w3 ⟨rfl, hx⟩
  replace hF := hF.then0 hx
  clear hx C1 C2
  go_wp2_with fail
  refine (newReader_calls _ _).mono ?_
  rintro e w4 ⟨rfl, hR0, hx⟩
  have hg0 := hF.size
  replace hF := hF.then0 hx
  clear hx
  go_wp2_with fail
  refine (newReader_calls _ _).mono ?_
  rintro e w5 ⟨rfl, hR1, hx⟩
  have hg1 := hR0.lt
  replace hF := hF.then0 hx
  have hR0 : Rd w5 w3.heap.size a 0 := hx.has hR0 (fun h => h)
  obtain ⟨g0, e0⟩ : ∃ g, g = w3.heap.size := ⟨_, rfl⟩
  obtain ⟨g1, e1⟩ : ∃ g, g = w4.heap.size := ⟨_, rfl⟩
  rw [← e0] at hg0 hg1 hR0 ⊢
  rw [← e1] at hg1 hR1 ⊢
  clear e0 e1 hx
  go_wp2_with fail
  obtain ⟨RB, hRB⟩ : ∃ RB, RB = w5.heap.size := ⟨_, rfl⟩
  have hSt : St w ((w5.alloc (.cells #[.pointer (some ⟨g0, 0, none⟩), .pointer (some ⟨g1, 0, none⟩)] 28)).alloc (.cells #[.string a, .int .i64 0, .int .i64 0, .string b, .int .i64 0, .int .i64 0] 32))
      RB (RB + 1) (fun k => if k = 0 then g0 else g1) (fun k => if k = 0 then a else b) (fun _ => 0) (fun _ => 0) := by
    refine ⟨fun k hk => ?_, ?_, ?_, fun _ _ => Nat.zero_le _, (hF.alloc _).alloc _⟩
    · have hk2 : k = 0 ∨ k = 1 := by omega
      have e0 : rest a 0 0 = a := by unfold rest; rw [if_pos rfl]; exact ByteArray.extract_zero_size
      have e1 : rest b 0 0 = b := by unfold rest; rw [if_pos rfl]; exact ByteArray.extract_zero_size
      rcases hk2 with rfl | rfl
      · show Rd _ g0 (rest a 0 0) 0
        rw [e0]
        exact (hR0.alloc _).alloc _
      · show Rd _ g1 (rest b 0 0) 0
        rw [e1]
        exact (hR1.alloc _).alloc _
    · rw [hRB]
      refine (Has.new _ _ _ _ 2 rfl (fun i hi => ?_)).alloc _
      have hk2 : i = 0 ∨ i = 1 := by omega
      rcases hk2 with rfl | rfl <;> rfl
    · have e : RB + 1 = (w5.alloc (.cells #[.pointer (some ⟨g0, 0, none⟩), .pointer (some ⟨g1, 0, none⟩)] 28)).heap.size := by rw [hRB]; simp
      rw [e]
      refine Has.new _ _ _ _ 6 rfl (fun i hi => ?_)
      match i, hi with
      | 0, _ => rfl
      | 1, _ => rfl
      | 2, _ => rfl
      | 3, _ => rfl
      | 4, _ => rfl
      | 5, _ => rfl
  have hG : ∀ k, k < 2 → w.heap.size ≤ (fun k => if k = 0 then g0 else g1) k ∧ (fun k => if k = 0 then g0 else g1) k < RB := fun k hk => by
    have h0 := hR0.lt
    have h1 := hR1.lt
    have hk2 : k = 0 ∨ k = 1 := by omega
    rcases hk2 with rfl | rfl
    · exact ⟨hg0, by show g0 < RB; omega⟩
    · exact ⟨by show _ ≤ g1; omega, by show g1 < RB; omega⟩
  have hGne : (fun k => if k = 0 then g0 else g1) 0 ≠ (fun k => if k = 0 then g0 else g1) 1 := by
    show g0 ≠ g1
    omega
  have hT : ∀ k, k < 2 → ((fun k => if k = 0 then a else b) k).size ≤ 4611686018427387904 := fun k hk => by
    simp only []
    split <;> assumption
  rw [← hRB]
  generalize (fun k => if k = 0 then g0 else g1) = G at *
  generalize (fun k => if k = 0 then a else b) = T at *
  have hwRB : w.heap.size ≤ RB := by have := hG 0 (by omega); omega
  clear hRB hR0 hR1 hF hg0 hg1
  go_loopw [11, 13, 14, 15, 16, 17, 18] (fun v11 _ _ _ _ _ _ wr => ∃ (i : Nat) (q : Nat → Nat) (e : Nat → Int), i ≤ n ∧ v11 = .int .i64 i ∧ St w wr RB (RB + 1) G T q e) (fun v _ _ _ _ _ _ _ => n - (intOf v).toNat)
  case atStart => exact ⟨0, _, _, Nat.zero_le _, rfl, hSt⟩
  case round =>
    clear hSt
    obtain ⟨i, q, e, hi, rfl, hSt⟩ := hrel
    by_cases hlt : i < n
    · obtain ⟨K, hK, hK2⟩ : ∃ K : Nat, (i : Int) % 2 = (K : Int) ∧ K < 2 := ⟨i % 2, by omega, by omega⟩
      obtain ⟨sb, so, rfl, hsb, hsc2⟩ := hA.at (by omega)
      have cs0 : wr.cell? ⟨sb, so + i * 2, none⟩ = _ := (hSt.fr.cell (p := ⟨sb, so + i * 2, none⟩) hsb (fun h => h)).trans (hsc2 (i * 2) (by omega))
      have cs1 : wr.cell? ⟨sb, so + (i * 2 + 1), none⟩ = _ := (hSt.fr.cell (p := ⟨sb, so + (i * 2 + 1), none⟩) hsb (fun h => h)).trans (hsc2 (i * 2 + 1) (by omega))
      clear hsc2
      by_cases hop : sc (i * 2) = 0
      · have hopb : (sc (i * 2) == 0) = true := by rw [beq_iff_eq]; exact hop
        have HK := Lib.hid hK
        clear hop
        have HA := Lib.hid hA
        clear hA
        have cR := hSt.hr.cell K hK2
        have hsz : (rest (T K) (q K) (e K)).size ≤ 9223372036854775807 := by have := rest_le (T K) (q K) (e K); have := hT K hK2; omega
        go_wp2_with fail
        refine (readNumber_calls (G K) _ _ _ (hSt.rd K hK2) hsz).mono ?_
        rintro e' w6 ⟨rfl, hR6, hF6⟩
        have hGK := hG K hK2
        have hW6 := hF6.has hSt.hw (by show ¬ (RB + 1 = G K); omega)
        have d0 : w6.cell? ⟨RB + 1, K * 3, none⟩ = some (.string (T K)) := ref_cell hW6 K 0 hK2 (by omega)
        have d1 : w6.cell? ⟨RB + 1, K * 3 + 1, none⟩ = some (.int .i64 (q K : Int)) := ref_cell hW6 K 1 hK2 (by omega)
        have d2 : w6.cell? ⟨RB + 1, K * 3 + 2, none⟩ = some (.int .i64 (e K)) := ref_cell hW6 K 2 hK2 (by omega)
        go_wp2_with fail
        refine (rnum_calls (T K) (q K) (e K) _ (hSt.hq K hK2) (hT K hK2)).mono ?_
        rintro e' w7 ⟨q', hq', rfl, hrest, hF7⟩
        have hW7 := hF7.has hW6 (fun h => h)
        generalize numV (rest (T K) (q K) (e K)) (e K) = V at *
        generalize numE (rest (T K) (q K) (e K)) (e K) = E at *
        generalize numS (rest (T K) (q K) (e K)) (e K) = S' at *
        have HREST := Lib.hid hrest
        clear hrest d0 d1 d2 cs1 hW6
        go_wp2_with (refine wpList_store_has hW7 rfl 31 _ _ rfl (K * 3) 3 (refF (T K) q' E) rfl rfl (by omega) rfl (fun _ _ => refF_one _ _ _ _) ?_; intro w8 hW8 hF8)
        have hSt8 := hSt.step hK2 hG hGne hwRB hR6 hF6 hF7 hW8 hF8 hq' HREST.out
        clear hSt cR hW8 hF8 hW7 hF7 hR6 hF6 hsb cs0
        have hrd := hSt8.rd K hK2
        have hhr := hSt8.hr
        have hhw := hSt8.hw
        rw [upd_self, upd_self, HREST.out] at hrd
        have cR : ∀ x : QTail.Later w8, x.w.cell? ⟨RB, K, none⟩ = some (.pointer (some ⟨G K, 0, none⟩)) := fun x => (x.fr.has hhr (fun h => h)).cell K hK2
        have d0 : ∀ x : QTail.Later w8, x.w.cell? ⟨RB + 1, K * 3, none⟩ = some (.string (T K)) := fun x => ref_cell (x.fr.has hhw (fun h => h)) K 0 hK2 (by omega)
        have d1 : ∀ x : QTail.Later w8, x.w.cell? ⟨RB + 1, K * 3 + 1, none⟩ = some (.int .i64 (q' : Int)) := fun x => by
          rw [ref_cell (x.fr.has hhw (fun h => h)) K 1 hK2 (by omega), upd_self, upd_self]; rfl
        have d2 : ∀ x : QTail.Later w8, x.w.cell? ⟨RB + 1, K * 3 + 2, none⟩ = some (.int .i64 E) := fun x => by
          rw [ref_cell (x.fr.has hhw (fun h => h)) K 2 hK2 (by omega), upd_self, upd_self]; rfl
        have hleft : ∀ x : QTail.Later w8, Calls Try.prog 15 #[.pointer (some ⟨G K, 0, none⟩)] x.w fun e w' => e = .returned (.int .i64 S'.size) ∧ Fr Nil x.w w' := fun x => left_calls (G K) _ _ _ (x.fr.has hrd (fun h => h))
        have hrleft : ∀ x : QTail.Later w8, Calls Try.prog 16 #[.agg #[.string (T K), .int .i64 (q' : Int), .int .i64 E]] x.w fun e w' => e = .returned (.int .i64 S'.size) ∧ Fr Nil x.w w' := fun x => by
          rw [← HREST.out]
          exact rleft_calls (T K) q' E _ hq' (by have := hT K hK2; omega)
        clear hrd hhr hhw
        refine QTail.quiet (QTail.In w8) (by kernel_rfl) (by kernel_rfl) (QTail.In.mk (Fr.refl _ _).drew) ?_
        repeat (first | go_big_quiet_step ((first | (go_at_call 15; exact QTail.calls_later (hleft _)) | (go_at_call 16; exact QTail.calls_later (hrleft _)))) | quiet_step ((first | (go_at_call 15; exact QTail.calls_later (hleft _)) | (go_at_call 16; exact QTail.calls_later (hrleft _)))))
        refine wpQuiet_nil ?_
        rintro _ ⟨x, rfl⟩
        go_wp2
        exact ⟨⟨i + 1, _, _, by omega, by go_num, hSt8.fr0 x.fr⟩, by simp [intOf]; omega⟩
      · have hopb : (sc (i * 2) == 0) = false := by rw [beq_eq_false_iff_ne]; exact hop
        have HK := Lib.hid hK
        clear hop
        have HA := Lib.hid hA
        clear hA
        have cR := hSt.hr.cell K hK2
        have hsz : (rest (T K) (q K) (e K)).size ≤ 9223372036854775807 := by have := rest_le (T K) (q K) (e K); have := hT K hK2; omega
        have hGK := hG K hK2
        have hil : 0 ≤ (i : Int) ∧ (i : Int) < n := by omega
        have hKl : 0 ≤ (K : Int) ∧ (K : Int) < 2 := by omega
        go_wp2_with fail
        rw [hK]
        obtain ⟨z, hz⟩ : ∃ z, sc (i * 2 + 1) = z := ⟨_, rfl⟩
        have hzb : -9223372036854775808 ≤ z ∧ z < 9223372036854775808 := by rw [← hz]; exact hsc _
        rw [hz] at cs1
        have hrK := hSt.rd K hK2
        have htk := fun w => take_calls (G K) (rest (T K) (q K) (e K)) (e K) z w
        have hrtk := fun w => rtake_calls (T K) (q K) (e K) z w (hSt.hq K hK2) (hT K hK2) hzb
        obtain ⟨s0, hs0⟩ : ∃ s, rest (T K) (q K) (e K) = s := ⟨_, rfl⟩
        rw [hs0] at hrK hsz
        simp only [hs0] at htk hrtk
        have hq' := takeQ_within (T K) (q K) (e K) z (hSt.hq K hK2)
        have HREST := takeQ_rest (T K) (q K) (e K) z (hSt.hq K hK2)
        rw [hs0] at hq' HREST
        generalize takeV s0 (e K) z = V at *
        generalize takeE s0 (e K) z = E at *
        generalize takeS s0 (e K) z = S' at *
        have hcR : ∀ w', Fr (· = G K) wr w' → w'.cell? ⟨RB, K, none⟩ = some (.pointer (some ⟨G K, 0, none⟩)) := fun w' hf => (hf.cell (p := ⟨RB, K, none⟩) hSt.hr.lt (by show ¬ (RB = G K); omega)).trans cR
        have hsbr : sb < wr.heap.size := Nat.lt_of_lt_of_le hsb hSt.fr.size
        have hcs : ∀ w', Fr (· = G K) wr w' → w'.cell? ⟨sb, so + (i * 2 + 1), none⟩ = some (.int .i64 z) := fun w' hf => (hf.cell (p := ⟨sb, so + (i * 2 + 1), none⟩) hsbr (by show ¬ (sb = G K); omega)).trans cs1
        generalize takeQ s0 (q K) (e K) z = q' at *
        have HTK := Lib.hid htk
        have HREST := Lib.hid HREST
        have HRTK := Lib.hid hrtk
        clear htk hrtk cs0 cs1 cR hs0 hz
        refine Flag.region (fun b w' => Fr (· = G K) wr w' ∧ Rd w' (G K) (if b then S' else s0) (if b then E else e K)) 8 (by kernel_rfl) (by kernel_rfl) (by decide) ⟨(Fr.refl _ _).drew, hrK.drew⟩ ?_
        refine Flag.valF (by decide) rfl (.int .i64 K) (fun b w' hw' => by go_simp) ?_
        refine Flag.valF (by decide) rfl (.pointer (some ⟨RB, K, none⟩)) (fun b w' hw' => by go_simp) ?_
        refine Flag.valF (by decide) rfl (.pointer (some ⟨G K, 0, none⟩)) (fun b w' hw' => by have c := hcR w' hw'.1; go_simp) ?_
        refine Flag.valF (by decide) rfl (.slice (some ⟨sb, so, none⟩) n cap) (fun b w' hw' => by go_simp) ?_
        refine Flag.valF (by decide) rfl (.int .i64 i) (fun b w' hw' => by go_simp) ?_
        refine Flag.valF (by decide) rfl (.pointer (some ⟨sb, so + i * 2, none⟩)) (fun b w' hw' => by go_simp) ?_
        refine Flag.valF (by decide) rfl (.pointer (some ⟨sb, so + (i * 2 + 1), none⟩)) (fun b w' hw' => by go_simp) ?_
        refine Flag.valF (by decide) rfl (.int .i64 z) (fun b w' hw' => by have c := hcs w' hw'.1; go_simp) ?_
        refine Flag.callS rfl 13 #[.pointer (some ⟨G K, 0, none⟩), .int .i64 z] (.tuple #[.string V, .int .i64 E]) (fun w' hw' => by go_simp) (fun w' hw' => (HTK.out w' hw'.2 hsz).mono fun e' w'' ⟨h1, h2, h3⟩ => ⟨h1, hw'.1.trans h3, h2⟩) ?_
        refine Flag.valF (by decide) rfl (.tuple #[.string V, .int .i64 E]) (fun b w' hw' => by go_simp) ?_
        refine Flag.valF (by decide) rfl (.string V) (fun b w' hw' => by go_simp) ?_
        refine Flag.valF (by decide) rfl (.int .i64 E) (fun b w' hw' => by go_simp) ?_
        refine Flag.valF (by decide) rfl (.string V) (fun b w' hw' => by go_simp) ?_
        refine Flag.valF (by decide) rfl (.int .i64 E) (fun b w' hw' => by go_simp) ?_
        rintro w6 ⟨hF6, hR6⟩
        simp only [Act.put, List.setIfInBounds_toArray, List.set_cons_succ, List.set_cons_zero]
        go_wp2_with fail
        have hR6 : Rd w6 (G K) S' E := hR6
        have hW6 := hF6.has hSt.hw (by show ¬ (RB + 1 = G K); omega)
        have hsb6 : sb < w6.heap.size := Nat.lt_of_lt_of_le hsbr hF6.size
        have hcs6 : ∀ w', Fr (· = RB + 1) w6 w' → w'.cell? ⟨sb, so + (i * 2 + 1), none⟩ = some (.int .i64 z) := fun w' hf => (hf.cell (p := ⟨sb, so + (i * 2 + 1), none⟩) hsb6 (by show ¬ (sb = RB + 1); omega)).trans (hcs w6 hF6)
        refine Flag.region (fun b w' => Fr (· = RB + 1) w6 w' ∧ Has w' (RB + 1) 6 32 (if b then (fun j => if K * 3 ≤ j ∧ j < K * 3 + 3 then refF (T K) q' E (j - K * 3) else refF (T (j / 3)) (q (j / 3)) (e (j / 3)) (j % 3)) else (fun j => refF (T (j / 3)) (q (j / 3)) (e (j / 3)) (j % 3)))) 15 (by kernel_rfl) (by kernel_rfl) (by decide) ⟨(Fr.refl _ _).drew, hW6.drew⟩ ?_
        refine Flag.valF (by decide) rfl (.int .i64 K) (fun b w' hw' => by go_simp) ?_
        refine Flag.valF (by decide) rfl (.int .i64 K) (fun b w' hw' => by go_simp) ?_
        refine Flag.valF (by decide) rfl (.pointer (some ⟨RB + 1, K * 3, none⟩)) (fun b w' hw' => by go_simp) ?_
        refine Flag.valP (by decide) (by kernel_rfl) rfl (aggF 3 (refF (T K) (q K) (e K))) (fun w' hw' => QTail.run_val rfl (run_load_cells _ _ (RB + 1) (K * 3) 3 _ (fun i hi => ref_cell hw'.2 K i hK2 hi) Try.underlying31 rfl rfl)) ?_
        refine Flag.valF (by decide) rfl (.slice (some ⟨sb, so, none⟩) n cap) (fun b w' hw' => by go_simp) ?_
        refine Flag.valF (by decide) rfl (.int .i64 i) (fun b w' hw' => by go_simp) ?_
        refine Flag.valF (by decide) rfl (.pointer (some ⟨sb, so + i * 2, none⟩)) (fun b w' hw' => by go_simp) ?_
        refine Flag.valF (by decide) rfl (.pointer (some ⟨sb, so + (i * 2 + 1), none⟩)) (fun b w' hw' => by go_simp) ?_
        refine Flag.valF (by decide) rfl (.int .i64 z) (fun b w' hw' => by have c := hcs6 w' hw'.1; go_simp) ?_
        refine Flag.callP (by decide) (by kernel_rfl) rfl 14 #[.agg #[.string (T K), .int .i64 (q K : Int), .int .i64 (e K)], .int .i64 z] (.tuple #[.agg #[.string (T K), .int .i64 (q' : Int), .int .i64 E], .string V, .int .i64 E]) (fun w' hw' => by go_simp; rfl) (fun w' hw' => (HRTK.out w').mono fun e' w'' ⟨_, h1, _, h3⟩ => ⟨h1, hw'.1.then0 h3, h3.has hw'.2 (fun h => h)⟩) ?_
        refine Flag.valF (by decide) rfl (.tuple #[.agg #[.string (T K), .int .i64 (q' : Int), .int .i64 E], .string V, .int .i64 E]) (fun b w' hw' => by go_simp) ?_
        refine Flag.valF (by decide) rfl (.agg #[.string (T K), .int .i64 (q' : Int), .int .i64 E]) (fun b w' hw' => by go_simp) ?_
        refine Flag.valF (by decide) rfl (.string V) (fun b w' hw' => by go_simp) ?_
        refine Flag.valF (by decide) rfl (.int .i64 E) (fun b w' hw' => by go_simp) ?_
        refine Flag.valF (by decide) rfl (.pointer (some ⟨RB + 1, K * 3, none⟩)) (fun b w' hw' => by go_simp) ?_
        simp only [Act.put, List.setIfInBounds_toArray, List.set_cons_succ, List.set_cons_zero]
        refine Flag.storeF rfl 31 _ _ rfl (RB + 1) (K * 3) 6 3 32 (fun j => refF (T (j / 3)) (q (j / 3)) (e (j / 3)) (j % 3)) (refF (T K) q' E) ?hx ?hy (by omega) rfl (fun _ _ => refF_one _ _ _ _)
          (fun w' hw' => ⟨hw'.2, fun w'' h1 h2 => ⟨hw'.1.trans h2, h1⟩⟩) ?_
        case hx => rfl
        case hy => rfl
        refine Flag.valF (by decide) rfl (.string V) (fun b w' hw' => by go_simp) ?_
        refine Flag.valF (by decide) rfl (.int .i64 E) (fun b w' hw' => by go_simp) ?_
        rintro w8 ⟨hF8, hW8⟩
        simp only [if_true] at hW8
        simp only [Act.put, List.setIfInBounds_toArray, List.set_cons_succ, List.set_cons_zero]
        go_wp2_with fail
        have hSt8 := hSt.step hK2 hG hGne hwRB hR6 hF6 (Fr.refl _ _) hW8 hF8 hq' HREST.out
        clear hSt hW8 hF8 hR6 hF6 hcR hcs HTK HRTK hcs6 hW6
        have hrd := hSt8.rd K hK2
        have hhr := hSt8.hr
        have hhw := hSt8.hw
        rw [upd_self, upd_self, HREST.out] at hrd
        have cR : ∀ x : QTail.Later w8, x.w.cell? ⟨RB, K, none⟩ = some (.pointer (some ⟨G K, 0, none⟩)) := fun x => (x.fr.has hhr (fun h => h)).cell K hK2
        have d0 : ∀ x : QTail.Later w8, x.w.cell? ⟨RB + 1, K * 3, none⟩ = some (.string (T K)) := fun x => ref_cell (x.fr.has hhw (fun h => h)) K 0 hK2 (by omega)
        have d1 : ∀ x : QTail.Later w8, x.w.cell? ⟨RB + 1, K * 3 + 1, none⟩ = some (.int .i64 (q' : Int)) := fun x => by
          rw [ref_cell (x.fr.has hhw (fun h => h)) K 1 hK2 (by omega), upd_self, upd_self]; rfl
        have d2 : ∀ x : QTail.Later w8, x.w.cell? ⟨RB + 1, K * 3 + 2, none⟩ = some (.int .i64 E) := fun x => by
          rw [ref_cell (x.fr.has hhw (fun h => h)) K 2 hK2 (by omega), upd_self, upd_self]; rfl
        have hleft : ∀ x : QTail.Later w8, Calls Try.prog 15 #[.pointer (some ⟨G K, 0, none⟩)] x.w fun e w' => e = .returned (.int .i64 S'.size) ∧ Fr Nil x.w w' := fun x => left_calls (G K) _ _ _ (x.fr.has hrd (fun h => h))
        have hrleft : ∀ x : QTail.Later w8, Calls Try.prog 16 #[.agg #[.string (T K), .int .i64 (q' : Int), .int .i64 E]] x.w fun e w' => e = .returned (.int .i64 S'.size) ∧ Fr Nil x.w w' := fun x => by
          rw [← HREST.out]
          exact rleft_calls (T K) q' E _ hq' (by have := hT K hK2; omega)
        clear hrd hhr hhw
        refine QTail.quiet (QTail.In w8) (by kernel_rfl) (by kernel_rfl) (QTail.In.mk (Fr.refl _ _).drew) ?_
        repeat (first | go_big_quiet_step ((first | (go_at_call 15; exact QTail.calls_later (hleft _)) | (go_at_call 16; exact QTail.calls_later (hrleft _)))) | quiet_step ((first | (go_at_call 15; exact QTail.calls_later (hleft _)) | (go_at_call 16; exact QTail.calls_later (hrleft _)))))
        refine wpQuiet_nil ?_
        rintro _ ⟨x, rfl⟩
        go_wp2
        exact ⟨⟨i + 1, _, _, by omega, by go_num, hSt8.fr0 x.fr⟩, by simp [intOf]; omega⟩
    · have hin : i = n := by omega
      subst hin
      go_wp2
      go_ret
      exact ⟨rfl, hSt.fr⟩

end Go.Proofs.Ytebbmpomccjbnaa.Wire
