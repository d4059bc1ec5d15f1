/- Layer 8: trees and peaks over a list of items: what they are, and plain's own functions. Conditions: the list can be read; sizes. -/
import Derived.Test.YtldiecblcnoleaaDoorHash07
import Derived.Test.YtldiecblcnoleaaDoorOwn
namespace Go.Proofs.YtldiecblcnoleaaDoor.Plain
open Go.RowKit Go.Proofs.YtldiecblcnoleaaDoor.Mem Go.Proofs.YtldiecblcnoleaaDoor.Sha Go.Proofs.YtldiecblcnoleaaDoor.Hash
set_option linter.unusedVariables false
set_option linter.unusedSimpArgs false

/-- The tree over the 2^h items from o on. -/
def treeD (k : Int) (f : Nat → ByteArray) : Nat → Nat → ByteArray
  | 0, o => dig k (leafT (f o))
  | h + 1, o => dig k (nodeT (treeD k f h o) (treeD k f h (o + 2 ^ h)))

theorem treeD_shift (k : Int) (f : Nat → ByteArray) (s : Nat) : ∀ h o, treeD k (fun i => f (s + i)) h o = treeD k f h (s + o)
  | 0, o => rfl
  | h + 1, o => by
    unfold treeD
    rw [treeD_shift k f s h o, treeD_shift k f s h (o + 2 ^ h), Nat.add_assoc]

theorem treeD_congr (k : Int) (f g : Nat → ByteArray) : ∀ h o, (∀ i, o ≤ i → i < o + 2 ^ h → f i = g i) → treeD k f h o = treeD k g h o
  | 0, o, e => by unfold treeD; rw [e o (Nat.le_refl _) (by simp)]
  | h + 1, o, e => by
    have e2 : 2 ^ (h + 1) = 2 ^ h + 2 ^ h := by rw [Nat.pow_succ]; omega
    unfold treeD
    rw [treeD_congr k f g h o (fun i h1 h2 => e i h1 (by omega)), treeD_congr k f g h (o + 2 ^ h) (fun i h1 h2 => e i (by omega) (by omega))]

theorem treeD_size (k : Int) (f : Nat → ByteArray) (h o : Nat) : (treeD k f h o).size = clamp k := by
  cases h <;> (unfold treeD; rw [dig_size])

theorem treeD_small (k : Int) (f : Nat → ByteArray) (h o : Nat) : (treeD k f h o).size ≤ 32 := by
  rw [treeD_size]; exact (clamp_le k).2

theorem SlAt.cut {w : World} {A : Option Addr} {n : Nat} {f : Nat → Value} (h : SlAt w A n f) (s m cap : Nat) (hs : s + m ≤ n) (hm : 0 < m) : SlAt w (A.map (·.add s)) m (fun i => f (s + i)) := by
  obtain ⟨b, o, rfl, hb, hc⟩ := h.at (by omega)
  refine .inr ⟨b, o + s, ?_, hb, fun i hi => by rw [Nat.add_assoc]; exact hc _ (by omega)⟩
  show some (Addr.add ⟨b, o, none⟩ s) = _
  unfold Addr.add
  split
  · next h => rw [h, Nat.add_zero]
  · rfl

theorem SlAt.take {w : World} {A : Option Addr} {n : Nat} {f : Nat → Value} (h : SlAt w A n f) (m : Nat) (hm : m ≤ n) : SlAt w A m f := by
  rcases h with h | ⟨b, o, h1, h2, h3⟩
  · exact .inl (by omega)
  · exact .inr ⟨b, o, h1, h2, fun i hi => h3 i (by omega)⟩

set_option maxRecDepth 100000 in
theorem tree_calls (k : Int) : ∀ (h n : Nat) (b o cap : Nat) (f : Nat → ByteArray) (w : World), Hid (n = 2 ^ h) → n ≤ cap → cap ≤ 9223372036854775807 → (∀ i, i < n → (f i).size ≤ 1152921504606846976) → b < w.heap.size → (∀ i, i < n → w.cell? ⟨b, o + i, none⟩ = some (.string (f i))) →
    Calls Tryd.prog 68 #[.int .i64 k, .slice (some ⟨b, o, none⟩) n cap] w fun e w' => e = .returned (.string (treeD k f h 0)) ∧ Fr Nil w w'
  | 0, n, b, o, cap, f, w, HN, hc, hc2, hs, hb, hcell => by
    obtain rfl : n = 1 := HN.out
    have c0 : w.cell? ⟨b, o, none⟩ = some (.string (f 0)) := hcell 0 (by omega)
    have s0 := hs 0 (by omega)
    clear hcell hs
    go_enter Tryd.func68, Tryd.ntmps68
    go_wp2_with (go_at_call 32; refine (leaf_dig k (f 0) _ s0).mono ?_; rintro e w2 ⟨rfl, hF2⟩)
    go_ret
    exact ⟨rfl, hF2⟩
  | h + 1, n, b, o, cap, f, w, HN, hc, hc2, hs, hb, hcell => by
    obtain ⟨H, hH⟩ : ∃ H, 2 ^ h = H := ⟨_, rfl⟩
    have hn : n = H + H := by rw [HN.out, Nat.pow_succ, ← hH]; omega
    have hH0 : 0 < H := by rw [← hH]; exact Nat.two_pow_pos h
    have hdiv : (n : Int) / 2 = (H : Int) := by omega
    have hne : ((n : Int) == 1) = false := by rw [beq_eq_false_iff_ne]; omega
    have hl : ∀ x : QTail.Later w, Calls Tryd.prog 68 #[.int .i64 k, .slice (some ⟨b, o, none⟩) H cap] x.w fun e w' => e = .returned (.string (treeD k f h 0)) ∧ Fr Nil x.w w' := fun x =>
      tree_calls k h H b o cap f x.w (Lib.hid hH.symm) (by omega) hc2 (fun i hi => hs i (by omega)) (Nat.lt_of_lt_of_le hb x.fr.size) (fun i hi => by
        rw [x.fr.cell (p := ⟨b, o + i, none⟩) hb (fun h => h)]; exact hcell i (by omega))
    have hr : ∀ x : QTail.Later w, Calls Tryd.prog 68 #[.int .i64 k, .slice (some ⟨b, o + H, none⟩) (n - H) (cap - H)] x.w fun e w' => e = .returned (.string (treeD k f h H)) ∧ Fr Nil x.w w' := fun x => by
      have := tree_calls k h H b (o + H) (cap - H) (fun i => f (H + i)) x.w (Lib.hid hH.symm) (by omega) (by omega) (fun i hi => hs _ (by omega)) (Nat.lt_of_lt_of_le hb x.fr.size) (fun i hi => by
        rw [x.fr.cell (p := ⟨b, o + H + i, none⟩) hb (fun h => h), Nat.add_assoc]; exact hcell _ (by omega))
      rw [show n - H = H by omega]
      rwa [treeD_shift] at this
    have e : treeD k f (h + 1) 0 = dig k (nodeT (treeD k f h 0) (treeD k f h H)) := by
      show dig k (nodeT (treeD k f h 0) (treeD k f h (0 + 2 ^ h))) = _
      rw [Nat.zero_add, hH]
    have s1 : (treeD k f h 0).size ≤ 1152921504606846976 := Nat.le_trans (treeD_small k f h 0) (by decide)
    have s2 : (treeD k f h H).size ≤ 1152921504606846976 := Nat.le_trans (treeD_small k f h H) (by decide)
    rw [e]
    generalize treeD k f h 0 = X at *
    generalize treeD k f h H = Y at *
    have hnode : ∀ x : QTail.Later w, Calls Tryd.prog 34 #[.int .i64 k, .string X, .string Y] x.w fun e w' => e = .returned (.string (dig k (nodeT X Y))) ∧ Fr Nil x.w w' := fun x => node_dig k X Y x.w s1 s2
    have HHn := Lib.hid hn
    clear e hcell hs hH hn HN
    go_enter Tryd.func68, Tryd.ntmps68
    have hlt : ¬ (cap = H) := by omega
    go_wp2_with fail
    refine QTail.quiet (QTail.In w) (by kernel_rfl) (by kernel_rfl) (QTail.In.mk (Fr.refl _ _).drew) ?_
    repeat (first | go_big_quiet_step (fail) | quiet_step (fail))
    refine QTail.call rfl 68 #[.int .i64 k, .slice (some ⟨b, o, none⟩) H cap] (.string X) (fun w' hw' => by go_simp) (fun w' hw' => by obtain ⟨x, rfl⟩ := hw'; exact QTail.calls_later (hl x)) ?_
    simp only [Act.put, List.setIfInBounds_toArray, List.set_cons_succ, List.set_cons_zero]
    repeat (first | go_big_quiet_step (fail) | quiet_step (fail))
    refine QTail.call rfl 68 #[.int .i64 k, .slice (some ⟨b, o + H, none⟩) (n - H) (cap - H)] (.string Y) (fun w' hw' => by go_simp) (fun w' hw' => by obtain ⟨x, rfl⟩ := hw'; exact QTail.calls_later (hr x)) ?_
    simp only [Act.put, List.setIfInBounds_toArray, List.set_cons_succ, List.set_cons_zero]
    repeat (first | go_big_quiet_step (fail) | quiet_step (fail))
    refine QTail.call rfl 34 #[.int .i64 k, .string X, .string Y] (.string (dig k (nodeT X Y))) (fun w' hw' => by go_simp) (fun w' hw' => by obtain ⟨x, rfl⟩ := hw'; exact QTail.calls_later (hnode x)) ?_
    simp only [Act.put, List.setIfInBounds_toArray, List.set_cons_succ, List.set_cons_zero]
    repeat (first | go_big_quiet_step (fail) | quiet_step (fail))
    refine wpQuiet_nil ?_
    rintro _ ⟨x, rfl⟩
    go_wp2
    go_ret
    exact ⟨rfl, x.fr⟩

/-- The peaks of n items from a on. -/
def peaksL (k : Int) (f : Nat → ByteArray) : Nat → Nat → Nat → List ByteArray
  | 0, _, _ => []
  | g + 1, a, n => if n = 0 then [] else treeD k f n.log2 a :: peaksL k f g (a + 2 ^ n.log2) (n - 2 ^ n.log2)

theorem peaksL_zero (k : Int) (f : Nat → ByteArray) (g a : Nat) : peaksL k f g a 0 = [] := by
  cases g <;> rfl

theorem peaksL_fuel (k : Int) (f : Nat → ByteArray) : ∀ (n g a : Nat), n ≤ g → peaksL k f g a n = peaksL k f n a n := by
  intro n
  induction n using Nat.strongRecOn with
  | _ n ih =>
    intro g a hg
    rcases Nat.eq_zero_or_pos n with h0 | h0
    · subst h0
      rw [peaksL_zero, peaksL_zero]
    · obtain ⟨g, rfl⟩ : ∃ m, g = m + 1 := ⟨g - 1, by omega⟩
      obtain ⟨m, rfl⟩ : ∃ m, n = m + 1 := ⟨n - 1, by omega⟩
      have hp := Nat.two_pow_pos (m + 1).log2
      simp only [peaksL]
      rw [if_neg (by omega), if_neg (by omega)]
      congr 1
      rw [ih _ (by omega) g _ (by omega), ih _ (by omega) m _ (by omega)]

theorem peaksL_step (k : Int) (f : Nat → ByteArray) (n a j P : Nat) (h0 : 0 < n) (hP : P = 2 ^ j) (h1 : P ≤ n) (h2 : n < 2 * P) : peaksL k f n a n = treeD k f j a :: peaksL k f (n - P) (a + P) (n - P) := by
  have hl : n.log2 = j := (Nat.log2_eq_iff (by omega)).2 ⟨by omega, by rw [Nat.pow_succ]; omega⟩
  obtain ⟨m, rfl⟩ : ∃ m, n = m + 1 := ⟨n - 1, by omega⟩
  have hp := Nat.two_pow_pos j
  simp only [peaksL]
  rw [if_neg (by omega), hl, ← hP, peaksL_fuel k f (m + 1 - P) m _ (by omega)]

def strsF (l : List ByteArray) (j : Nat) : Value := .string (l.getD j ⟨#[]⟩)

theorem strsF_grow (l : List ByteArray) (y : ByteArray) (j : Nat) (hj : j < l.length + 1) : joinF l.length (strsF l) (fun _ => .string y) j = strsF (l ++ [y]) j := by
  unfold joinF strsF
  by_cases e : j < l.length
  · rw [if_pos e]
    simp [List.getD_eq_getElem?_getD, List.getElem?_append, e]
  · have : j = l.length := by omega
    subst this
    rw [if_neg e]
    simp

theorem Own.growS {w : World} {B n : Nat} {v : Value} {l : List ByteArray} {y : ByteArray} (h : Own w B v 9 1 (n + 1) (joinF (n * 1) (strsF l) fun _ => .string y)) (hl : l.length = n) : Own w B v 9 1 (n + 1) (strsF (l ++ [y])) := by
  subst hl
  refine h.congr fun j hj => ?_
  rw [Nat.mul_one]
  exact strsF_grow l y j (by omega)

theorem info_str : (Tryd.prog.info? 9).map (fun i => (i.zero, i.size, i.bytes)) = some (some (.string ⟨#[]⟩), 1, 16) := by kernel_rfl

set_option maxRecDepth 100000 in
set_option maxHeartbeats 1000000 in
theorem peaks_calls (k : Int) (A : Option Addr) (n cap : Nat) (f : Nat → ByteArray) (w : World) (hn : n ≤ 8796093022207) (hc : n ≤ cap) (hc2 : cap ≤ 9223372036854775807) (hs : ∀ i, i < n → (f i).size ≤ 1152921504606846976) (hA : SlAt w A n (fun i => .string (f i))) :
    Calls Tryd.prog 43 #[.int .i64 k, .slice A n cap] w fun e w' => ∃ V, e = .returned V ∧ Own w' w.heap.size V 9 1 (peaksL k f n 0 n).length (strsF (peaksL k f n 0 n)) ∧ Fr Nil w w' := by
  obtain ⟨L, hL⟩ : ∃ L, L = peaksL k f n 0 n := ⟨_, rfl⟩
  rw [← hL]
  have HL := Lib.hid hL
  clear hL
  go_enter Tryd.func43, Tryd.ntmps43
  go_wp2
  go_loopw [1, 5] (fun v1 v5 wr => ∃ (a r c : Nat) (B : Option Addr) (l : List ByteArray) (V : Value), v1 = .slice B r c ∧ V = v5 ∧ r ≤ c ∧ c ≤ 9223372036854775807 ∧ a + r = n ∧ l.length ≤ a ∧ SlAt w B r (fun i => .string (f (a + i))) ∧ Hid (L = l ++ peaksL k f r a r) ∧ Own wr w.heap.size V 9 1 l.length (strsF l) ∧ Fr Nil w wr) (fun v _ _ => sliceLen v)
  case atStart =>
    refine ⟨0, n, cap, A, [], _, rfl, rfl, hc, hc2, by omega, Nat.le_refl _, hA.congr fun i hi => by rw [Nat.zero_add], HL, Own.nil _ _ _ _ _, Fr.refl _ _⟩
  case round =>
    obtain ⟨a, r, c, B, l, V, rfl, rfl, hrc, hc3, har, hla, hB, HLL, hO, hF⟩ := hrel
    by_cases hr0 : 0 < r
    · obtain ⟨b, o, rfl, hb, hcell⟩ := hB.at hr0
      have HC := Lib.hid hcell
      have HB := Lib.hid hB
      clear hcell hB hA
      go_wp2
      obtain ⟨wo, hwo⟩ : ∃ wo : World, wo = wr := ⟨_, rfl⟩
      rw [← hwo] at hO hF ⊢
      clear hwo
      go_loop [6] (fun v6 => ∃ P j : Nat, v6 = .int .i64 P ∧ Hid (P = 2 ^ j) ∧ 0 < P ∧ P ≤ r) (fun v => r - (intOf v).toNat)
      case atStart => exact ⟨1, 0, rfl, rfl, by omega, by omega⟩
      case round =>
        obtain ⟨P, j, rfl, HP, hP0, hPr⟩ := hrel
        by_cases hmore : 2 * P ≤ r
        · go_wp2_with fail
          refine ⟨⟨2 * P, j + 1, congrArg (Value.int .i64) (by omega), ?_, by omega, by omega⟩, by simp [intOf]; omega⟩
          show 2 * P = 2 ^ (j + 1)
          rw [HP.out, Nat.pow_succ, Nat.mul_comm]
        · have hsub : (r : Int) - P = ((r - P : Nat) : Int) := by omega
          go_wp2_with fail
          refine (tree_calls k j P b o c (fun i => f (a + i)) wo HP (by omega) hc3 (fun i hi => hs _ (by omega)) (Nat.lt_of_lt_of_le hb hF.size) (fun i hi => by rw [hF.cell (p := ⟨b, o + i, none⟩) hb (fun h => h)]; exact HC.out i (by omega))).mono ?_
          rintro e w1 ⟨rfl, hF1⟩
          have hsh := treeD_shift k f a j 0
          obtain ⟨X, hX⟩ : ∃ X, treeD k (fun i => f (a + i)) j 0 = X := ⟨_, rfl⟩
          rw [hX] at hsh ⊢
          have HX := Lib.hid hsh
          clear hsh hX
          replace hF := hF.then0 hF1
          replace hO := hO.fr0 hF1
          have hwb := hF.size
          clear hF1
          go_wp2_with (at_builtin; go_must (refine wpList_append rfl _ _ 22 rfl w.heap.size 9 1 16 (.string ⟨#[]⟩) Tryd.underlying22 info_str rfl (by omega) V l.length (strsF l) rfl (hO.fr0 (Fr.alloc1 _ _)) w1.heap.size 0 1 1 (fun _ => .string X) rfl (new_one _ _ _) (fun _ _ => rfl) (by omega) (by omega) (by simp; omega) ?_); intro V' w2 hO2 hF2 _)
          refine ⟨⟨a + P, r - P, c - P, _, l ++ [X], V', rfl, rfl, by omega, by omega, by omega, by simp; omega, ?_, ?_, ?_, (hF.alloc _).thenOwn (hO.fr0 (Fr.alloc1 _ _)) (Nat.le_refl _) hF2⟩, by simp [sliceLen]; omega⟩
          · rcases Nat.eq_zero_or_pos (r - P) with h0 | h0
            · exact .inl h0
            · rw [if_neg (by omega)]
              refine .inr ⟨b, o + P, rfl, hb, fun i hi => ?_⟩
              rw [Nat.add_assoc, HC.out (P + i) (by omega)]
              show some (Value.string (f (a + (P + i)))) = some (.string (f (a + P + i)))
              rw [Nat.add_assoc]
          · show L = (l ++ [X]) ++ _
            rw [HLL.out, peaksL_step k f r a j P hr0 HP.out hPr (by omega), HX.out, List.append_assoc]
            rfl
          · rw [List.length_append]
            exact Own.growS hO2 rfl
    · have hr00 : r = 0 := by omega
      subst hr00
      go_wp2
      go_ret
      refine ⟨V, rfl, ?_, hF⟩
      rw [HLL.out, peaksL_zero, List.append_nil]
      exact hO

/-- A block's digest within n items, if it is there. -/
def isTree (n : Nat) (H : Int) (K : Nat) : Bool := decide (0 ≤ H ∧ H ≤ 40 ∧ K < n / 2 ^ H.toNat)
def treeOf (k : Int) (f : Nat → ByteArray) (n : Nat) (H : Int) (K : Nat) : ByteArray := if isTree n H K then treeD k f H.toNat (K * 2 ^ H.toNat) else ⟨#[]⟩

set_option maxRecDepth 100000 in
set_option maxHeartbeats 1000000 in
theorem treeOf_calls (k : Int) (A : Option Addr) (n cap : Nat) (f : Nat → ByteArray) (H : Int) (K : Nat) (w : World) (hn : n ≤ 8796093022207) (hc : n ≤ cap) (hc2 : cap ≤ 9223372036854775807) (hs : ∀ i, i < n → (f i).size ≤ 1152921504606846976) (hA : SlAt w A n (fun i => .string (f i))) (hK : K < 18446744073709551616) :
    Calls Tryd.prog 47 #[.int .i64 k, .slice A n cap, .agg #[.int .i64 H, .int .u64 (K : Int)]] w fun e w' => e = .returned (.tuple #[.string (treeOf k f n H K), .bool (isTree n H K)]) ∧ Fr Nil w w' := by
  by_cases hH : 0 ≤ H ∧ H ≤ 40
  · obtain ⟨h, rfl⟩ : ∃ h : Nat, H = h := ⟨H.toNat, by omega⟩
    have d1 : decide ((h : Int) < 0) = false := decide_eq_false (by omega)
    have d2 : decide ((h : Int) > 40) = false := decide_eq_false (by omega)
    have h64 : (h : Int) ≤ 64 := by omega
    have h00 : 0 ≤ (h : Int) := by omega
    obtain ⟨M, hM, hN⟩ : ∃ M : Nat, M = n / 2 ^ h ∧ (n : Int) / 2 ^ h = (M : Int) := ⟨n / 2 ^ h, rfl, by rw [Int.natCast_ediv, Int.natCast_pow]; rfl⟩
    have HM := Lib.hid hM
    clear hM
    by_cases hlt : K < M
    · have d3 : ¬ M ≤ K := by omega
      obtain ⟨P, hP⟩ : ∃ P, 2 ^ h = P := ⟨_, rfl⟩
      have hP0 : 0 < P := by rw [← hP]; exact Nat.two_pow_pos h
      obtain ⟨lo, hlo⟩ : ∃ lo, K * P = lo := ⟨_, rfl⟩
      have hin : lo + P ≤ n := by
        have h1 : (K + 1) * P ≤ n := by
          have h2 : K + 1 ≤ n / P := by rw [← hP, ← HM.out]; omega
          exact Nat.le_trans (Nat.mul_le_mul_right _ h2) (Nat.div_mul_le_self n P)
        rw [Nat.add_mul, hlo] at h1
        omega
      have hw : ∀ x : Int, IntKind.u64.wrap x = x % 18446744073709551616 := fun _ => rfl
      have hKb : K < 8796093022208 := by
        have : K * 1 ≤ K * P := Nat.mul_le_mul_left _ hP0
        omega
      have hPi : (2 : Int) ^ h = (P : Int) := by rw [← hP, Int.natCast_pow]; rfl
      have e1 : (K : Int) * (P : Int) = (lo : Int) := by rw [← hlo, Int.natCast_mul]
      have e2 : ((K : Int) + 1) * (P : Int) = ((lo + P : Nat) : Int) := by rw [Int.add_mul, e1]; omega
      have l1 : IntKind.u64.wrap ((K : Int) * 2 ^ h) = (lo : Int) := by rw [hPi, e1, hw]; omega
      have l2 : IntKind.u64.wrap (((K : Int) + 1) * 2 ^ h) = ((lo + P : Nat) : Int) := by rw [hPi, e2, hw]; omega
      have hit : isTree n (h : Int) K = true := decide_eq_true ⟨h00, by omega, by rw [Int.toNat_natCast, ← HM.out]; exact hlt⟩
      have hto : treeOf k f n (h : Int) K = treeD k f h lo := by unfold treeOf; rw [if_pos hit, Int.toNat_natCast, hP, hlo]
      have HP := Lib.hid hP.symm
      rw [hit, hto]
      clear hit hto e1 e2 hPi hlo hP hw
      obtain ⟨b, o, rfl, hbw, hcell⟩ := hA.at (by omega)
      have htree : ∀ w', Fr Nil w w' → Calls Tryd.prog 68 #[.int .i64 k, .slice (some ⟨b, o + lo, none⟩) (lo + P - lo) (cap - lo)] w' fun e w'' => e = .returned (.string (treeD k f h lo)) ∧ Fr Nil w' w'' := fun w' hFx => by
        have := tree_calls k h P b (o + lo) (cap - lo) (fun i => f (lo + i)) w' HP (by omega) (by omega) (fun i hi => hs _ (by omega)) (Nat.lt_of_lt_of_le hbw hFx.size) (fun i hi => by
          rw [hFx.cell (p := ⟨b, o + lo + i, none⟩) hbw (fun h => h), Nat.add_assoc]; exact hcell _ (by omega))
        rw [treeD_shift, Nat.add_zero] at this
        rw [show lo + P - lo = P by omega]
        exact this
      generalize treeD k f h lo = X at *
      have HT := Lib.hid htree
      clear hcell hA htree hs
      have hcl : ¬ (cap = lo) := by omega
      go_enter Tryd.func47, Tryd.ntmps47
      go_wp2_with fail
      have hb : Has (w.alloc (.cells #[.int .i64 (h : Int), .int .u64 (K : Int)] 52)) w.heap.size 2 52 (fun i => if i = 0 then .int .i64 (h : Int) else .int .u64 (K : Int)) := Has.new _ _ _ _ 2 rfl (fun i hi => by
        have e : i = 0 ∨ i = 1 := by omega
        rcases e with rfl | rfl <;> rfl)
      have hF := Fr.alloc1 w (.cells #[.int .i64 (h : Int), .int .u64 (K : Int)] 52)
      generalize w.alloc (.cells #[.int .i64 (h : Int), .int .u64 (K : Int)] 52) = w1 at *
      have c0 : w1.cell? ⟨w.heap.size, 0, none⟩ = some (.int .i64 (h : Int)) := hb.cell 0 (by omega)
      have c1 : w1.cell? ⟨w.heap.size, 1, none⟩ = some (.int .u64 (K : Int)) := hb.cell 1 (by omega)
      refine QTail.quiet (fun w' => ∃ n, w' = w1.drewN n) (by kernel_rfl) (by kernel_rfl) ⟨1, rfl⟩ ?_
      repeat (first | go_big_quiet_step (fail) | quiet_step (fail))
      refine wpQuiet_nil ?_
      rintro _ ⟨x, rfl⟩
      replace hF := hF.drewN x
      replace hb := hb.drewN x
      clear c0 c1
      generalize w1.drewN x = w2 at *
      go_wp2_with fail
      have c0 : ∀ x : QTail.Later w2, x.w.cell? ⟨w.heap.size, 0, none⟩ = some (.int .i64 (h : Int)) := fun x => (x.fr.has hb (fun h => h)).cell 0 (by omega)
      have c1 : ∀ x : QTail.Later w2, x.w.cell? ⟨w.heap.size, 1, none⟩ = some (.int .u64 (K : Int)) := fun x => (x.fr.has hb (fun h => h)).cell 1 (by omega)
      refine QTail.quiet (QTail.In w2) (by kernel_rfl) (by kernel_rfl) (QTail.In.mk (Fr.refl _ _).drew) ?_
      repeat (first | go_big_quiet_step (fail) | quiet_step (fail))
      refine QTail.call rfl 68 #[.int .i64 k, .slice (some ⟨b, o + lo, none⟩) (lo + P - lo) (cap - lo)] (.string X) (fun w' hw' => by go_simp) (fun w' hw' => by obtain ⟨x, rfl⟩ := hw'; exact QTail.calls_later (HT.out _ (hF.then0 x.fr))) ?_
      simp only [Act.put, List.setIfInBounds_toArray, List.set_cons_succ, List.set_cons_zero]
      repeat (first | go_big_quiet_step (fail) | quiet_step (fail))
      refine wpQuiet_nil ?_
      rintro _ ⟨x, rfl⟩
      go_wp2
      go_ret2
      exact ⟨rfl, hF.then0 x.fr⟩
    · have d3 : M ≤ K := by omega
      have hit : isTree n (h : Int) K = false := decide_eq_false (fun hh => by have := hh.2.2; rw [Int.toNat_natCast, ← HM.out] at this; omega)
      have hto : treeOf k f n (h : Int) K = ⟨#[]⟩ := by unfold treeOf; rw [hit]; rfl
      rw [hit, hto]
      clear hit hto hA hs
      go_enter Tryd.func47, Tryd.ntmps47
      go_wp2_with fail
      have hb : Has (w.alloc (.cells #[.int .i64 (h : Int), .int .u64 (K : Int)] 52)) w.heap.size 2 52 (fun i => if i = 0 then .int .i64 (h : Int) else .int .u64 (K : Int)) := Has.new _ _ _ _ 2 rfl (fun i hi => by
        have e : i = 0 ∨ i = 1 := by omega
        rcases e with rfl | rfl <;> rfl)
      have hF := Fr.alloc1 w (.cells #[.int .i64 (h : Int), .int .u64 (K : Int)] 52)
      generalize w.alloc (.cells #[.int .i64 (h : Int), .int .u64 (K : Int)] 52) = w1 at *
      have c0 : w1.cell? ⟨w.heap.size, 0, none⟩ = some (.int .i64 (h : Int)) := hb.cell 0 (by omega)
      have c1 : w1.cell? ⟨w.heap.size, 1, none⟩ = some (.int .u64 (K : Int)) := hb.cell 1 (by omega)
      refine QTail.quiet (fun w' => ∃ n, w' = w1.drewN n) (by kernel_rfl) (by kernel_rfl) ⟨1, rfl⟩ ?_
      repeat (first | go_big_quiet_step (fail) | quiet_step (fail))
      refine wpQuiet_nil ?_
      rintro _ ⟨x, rfl⟩
      go_wp2
      go_ret2
      exact ⟨rfl, hF.drewN x⟩
  · have hit : isTree n H K = false := decide_eq_false (fun hh => hH ⟨hh.1, hh.2.1⟩)
    have hto : treeOf k f n H K = ⟨#[]⟩ := by unfold treeOf; rw [hit]; rfl
    rw [hit, hto]
    clear hit hto hA hs
    rcases Int.lt_or_le H 0 with h0 | h0
    · have d1 : decide (H < 0) = true := decide_eq_true h0
      clear hH
      go_enter Tryd.func47, Tryd.ntmps47
      go_wp2_with fail
      have hb : Has (w.alloc (.cells #[.int .i64 H, .int .u64 (K : Int)] 52)) w.heap.size 2 52 (fun i => if i = 0 then .int .i64 H else .int .u64 (K : Int)) := Has.new _ _ _ _ 2 rfl (fun i hi => by
        have e : i = 0 ∨ i = 1 := by omega
        rcases e with rfl | rfl <;> rfl)
      have hF := Fr.alloc1 w (.cells #[.int .i64 H, .int .u64 (K : Int)] 52)
      generalize w.alloc (.cells #[.int .i64 H, .int .u64 (K : Int)] 52) = w1 at *
      have c0 : w1.cell? ⟨w.heap.size, 0, none⟩ = some (.int .i64 H) := hb.cell 0 (by omega)
      have c1 : w1.cell? ⟨w.heap.size, 1, none⟩ = some (.int .u64 (K : Int)) := hb.cell 1 (by omega)
      refine QTail.quiet (fun w' => ∃ n, w' = w1.drewN n) (by kernel_rfl) (by kernel_rfl) ⟨1, rfl⟩ ?_
      repeat (first | go_big_quiet_step (fail) | quiet_step (fail))
      refine wpQuiet_nil ?_
      rintro _ ⟨x, rfl⟩
      go_wp2
      go_ret2
      exact ⟨rfl, hF.drewN x⟩
    · have d1 : decide (H < 0) = false := decide_eq_false (by omega)
      have d2 : decide (H > 40) = true := decide_eq_true (by omega)
      clear hH
      go_enter Tryd.func47, Tryd.ntmps47
      go_wp2_with fail
      have hb : Has (w.alloc (.cells #[.int .i64 H, .int .u64 (K : Int)] 52)) w.heap.size 2 52 (fun i => if i = 0 then .int .i64 H else .int .u64 (K : Int)) := Has.new _ _ _ _ 2 rfl (fun i hi => by
        have e : i = 0 ∨ i = 1 := by omega
        rcases e with rfl | rfl <;> rfl)
      have hF := Fr.alloc1 w (.cells #[.int .i64 H, .int .u64 (K : Int)] 52)
      generalize w.alloc (.cells #[.int .i64 H, .int .u64 (K : Int)] 52) = w1 at *
      have c0 : w1.cell? ⟨w.heap.size, 0, none⟩ = some (.int .i64 H) := hb.cell 0 (by omega)
      have c1 : w1.cell? ⟨w.heap.size, 1, none⟩ = some (.int .u64 (K : Int)) := hb.cell 1 (by omega)
      refine QTail.quiet (fun w' => ∃ n, w' = w1.drewN n) (by kernel_rfl) (by kernel_rfl) ⟨1, rfl⟩ ?_
      repeat (first | go_big_quiet_step (fail) | quiet_step (fail))
      refine wpQuiet_nil ?_
      rintro _ ⟨x, rfl⟩
      go_wp2
      go_ret2
      exact ⟨rfl, hF.drewN x⟩

end Go.Proofs.YtldiecblcnoleaaDoor.Plain
