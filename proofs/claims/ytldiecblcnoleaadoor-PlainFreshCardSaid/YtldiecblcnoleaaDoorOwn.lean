/- Slices that a call itself has made: appended to, read, written. No condition. -/
import Derived.Test.YtldiecblcnoleaaDoorMem
import Derived.Laws.AppendOwnNone
namespace Go.Proofs.YtldiecblcnoleaaDoor.Mem
open Go.RowKit

/-- The slice value v has n elements of type e, size cells each; it lies in a block of its own from B on (or is nil); cell j of it is f j. -/
def Own (w : World) (B : Nat) (v : Value) (e size n : Nat) (f : Nat → Value) : Prop := w.ownsRow B e size v n (cellsF (n * size) f)

theorem Own.congr {w : World} {B : Nat} {v : Value} {e size n : Nat} {f g : Nat → Value} (h : Own w B v e size n f) (k : ∀ j, j < n * size → f j = g j) : Own w B v e size n g := by
  unfold Own; rw [← cellsF_congr k]; exact h

theorem Own.nil (w : World) (B e size : Nat) (f : Nat → Value) : Own w B (.slice none 0 0) e size 0 f :=
  ⟨by simp [cellsF], .inl ⟨rfl, rfl⟩⟩

theorem Has.own {w : World} {g n N e B size cap : Nat} {f : Nat → Value} (h : Has w g N e f) (hB : B ≤ g) (hN : N = cap * size) (hc : n ≤ cap) (hcap : cap ≤ 9223372036854775807) :
    Own w B (.slice (some ⟨g, 0, none⟩) n cap) e size n f := by
  refine ⟨by simp [cellsF], .inr ⟨g, cap, _, rfl, hB, h.heap, hc, by simpa [maxLen] using hcap, by simp [cellsF, hN], ?_⟩⟩
  have hle : n * size ≤ N := by rw [hN]; exact Nat.mul_le_mul_right _ hc
  simp only [cellsF, ← List.map_take, List.take_range, Nat.min_eq_left hle]

/-- What it is, opened. -/
theorem Own.open {w : World} {B : Nat} {v : Value} {e size n : Nat} {f : Nat → Value} (h : Own w B v e size n f) :
    (v = .slice none 0 0 ∧ n = 0) ∨ ∃ g cap N f', v = .slice (some ⟨g, 0, none⟩) n cap ∧ B ≤ g ∧ n ≤ cap ∧ cap ≤ maxLen ∧ N = cap * size ∧ Has w g N e f' ∧ ∀ j, j < n * size → f' j = f j := by
  obtain ⟨_, h2⟩ := h
  rcases h2 with h2 | ⟨g, cap, cur, hv, hB, hh, hn, hcap, hsz, htk⟩
  · exact .inl h2
  · refine .inr ⟨g, cap, cur.size, fun j => cur.getD j undef, hv, hB, hn, hcap, hsz, ⟨cur, hh, rfl, fun i hi => by simp [hi]⟩, fun j hj => ?_⟩
    have hj2 : j < cur.size := by rw [hsz]; exact Nat.lt_of_lt_of_le hj (Nat.mul_le_mul_right _ hn)
    have h3 := congrArg (fun l => l[j]?) htk
    simp only [List.getElem?_take, hj, if_true] at h3
    rw [cellsF_get _ _ _ hj] at h3
    have h4 : cur[j]? = some (f j) := by simpa using h3
    simp [Array.getD_eq_getD_getElem?, h4]

theorem Own.block {w : World} {B : Nat} {v : Value} {e size n : Nat} {f : Nat → Value} (h : Own w B v e size n f) {k : Nat} (hk : v.ownBlock = some k) : B ≤ k ∧ k < w.heap.size := by
  rcases h.open with ⟨rfl, _⟩ | ⟨g, cap, N, f', rfl, hB, _, _, _, hH, _⟩
  · cases hk
  · simp only [Value.ownBlock, Option.some.injEq] at hk
    subst hk
    exact ⟨hB, hH.lt⟩

theorem Own.fr {S : Nat → Prop} {w w' : World} {B : Nat} {v : Value} {e size n : Nat} {f : Nat → Value} (h : Own w B v e size n f) (k : Fr S w w') (hS : ∀ i, B ≤ i → v.ownBlock = some i → ¬ S i) : Own w' B v e size n f := by
  obtain ⟨h1, h2⟩ := h
  refine ⟨h1, ?_⟩
  rcases h2 with h2 | ⟨g, cap, cur, hv, hB, hh, r⟩
  · exact .inl h2
  · refine .inr ⟨g, cap, cur, hv, hB, ?_, r⟩
    rw [k.block g (Array.getElem?_eq_some_iff.1 hh).1 (hS g hB (by rw [hv]; rfl))]
    exact hh

theorem Own.fr0 {w w' : World} {B : Nat} {v : Value} {e size n : Nat} {f : Nat → Value} (h : Own w B v e size n f) (k : Fr Nil w w') : Own w' B v e size n f :=
  h.fr k (fun _ _ _ h => h)

theorem Own.low {w : World} {B B' : Nat} {v : Value} {e size n : Nat} {f : Nat → Value} (h : Own w B v e size n f) (k : B' ≤ B) : Own w B' v e size n f := by
  obtain ⟨h1, h2⟩ := h
  refine ⟨h1, ?_⟩
  rcases h2 with h2 | ⟨g, cap, cur, hv, hB, r⟩
  · exact .inl h2
  · exact .inr ⟨g, cap, cur, hv, Nat.le_trans k hB, r⟩

theorem Fr.ofGrown {w w' : World} {r : Option Nat} (h : w.grownBy w' r) : Fr (fun k => r = some k) w w' :=
  ⟨h.os, h.tape, h.output, h.size, fun k hk hs => h.block k hk (fun e => hs e.symm)⟩

/-- Behind a stretch that writes nothing old, an append onto a slice of one's own. -/
theorem Fr.thenOwn {S : Nat → Prop} {a w w' : World} {v : Value} {B e size n : Nat} {f : Nat → Value} (h : Fr S a w) (o : Own w B v e size n f) (hB : a.heap.size ≤ B) (k : Fr (fun k => v.ownBlock = some k) w w') : Fr S a w' :=
  h.then k fun i hi hv => by have := (o.block hv).1; omega

def joinF (k : Nat) (f g : Nat → Value) (j : Nat) : Value := if j < k then f j else g (j - k)

theorem cellsF_join (k m : Nat) (f g : Nat → Value) : cellsF k f ++ cellsF m g = cellsF (k + m) (joinF k f g) := by
  unfold cellsF
  rw [List.range_add, List.map_append, List.map_map]
  congr 1
  · exact List.map_congr_left fun i hi => by unfold joinF; rw [if_pos (List.mem_range.1 hi)]
  · refine List.map_congr_left fun i _ => ?_
    show g i = joinF k f g (k + i)
    unfold joinF
    rw [if_neg (by omega), Nat.add_sub_cancel_left]

/-- append(s, x...): s one's own, x's cells lie at ⟨b, o⟩. -/
theorem wpList_append {P : Program} {w : World} {ops : Array Oper} {rest : List Oper} {o : Oper} {a : Act} {Q : Exit → Act → World → Prop} (hgd : o.guard = none) (s x : Operand) (t : TypeId)
    (ho : o.op = .call { callee := .builtin .append, args := #[s, x], argTypes := #[t, t] })
    (B e size bytes : Nat) (z : Value) (ht : P.underlying t = some (.slice e)) (hi : (P.info? e).map (fun i => (i.zero, i.size, i.bytes)) = some (some z, size, bytes)) (hzs : z.cells.size = size) (hsz : 0 < size)
    (v : Value) (n : Nat) (f : Nat → Value) (hs : a.eval s = v) (hown : Own w B v e size n f)
    (b off m c : Nat) (g : Nat → Value) (hx : a.eval x = .slice (some ⟨b, off, none⟩) m c) (hnews : ∀ j, j < m * size → w.cell? ⟨b, off + j, none⟩ = some (g j)) (h1 : ∀ j, j < m * size → (g j).oneCell' = true)
    (h63 : n + m ≤ 9223372036854775807) (hbytes : (n + m) * bytes ≤ 140737488355328) (hB : B ≤ w.heap.size)
    (h : ∀ v' w', Own w' B v' e size (n + m) (joinF (n * size) f g) → Fr (fun k => v.ownBlock = some k) w w' → (v' = .slice none 0 0 ↔ v = .slice none 0 0 ∧ m = 0) → wpList P ops Q rest (a.put o.dst v') w') :
    wpList P ops Q (o :: rest) a w := by
  obtain ⟨i, hi0, hz0, hz1, hz2⟩ := info_parts hi
  refine wpList_append_own w hgd s x t ho B e i z size bytes ht hi0 hz0 hz1 hz2 hzs hsz v n (cellsF (n * size) f) hs hown ⟨b, off, none⟩ m c (cellsF (m * size) g) hx (cellsF_length _ _) ?_ (cellsF_one h1) (by simpa [maxLen] using h63) hbytes hB ?_
  · intro j u hu
    have hj : j < m * size := by rw [← cellsF_length (m * size) g]; exact (List.getElem?_eq_some_iff.1 hu).1
    rw [cellsF_get _ _ _ hj] at hu
    rw [Addr.add_mid, hnews j hj, hu]
  · intro v' w' h1 h2 h3
    rw [cellsF_join, ← Nat.add_mul] at h1
    exact h v' w' h1 (Fr.ofGrown h2) h3

/-- append(s, x...): s one's own, x whatever can be read. -/
theorem wpList_append_sl {P : Program} {w : World} {ops : Array Oper} {rest : List Oper} {o : Oper} {a : Act} {Q : Exit → Act → World → Prop} (hgd : o.guard = none) (s x : Operand) (t : TypeId)
    (ho : o.op = .call { callee := .builtin .append, args := #[s, x], argTypes := #[t, t] })
    (B e size bytes : Nat) (z : Value) (ht : P.underlying t = some (.slice e)) (hi : (P.info? e).map (fun i => (i.zero, i.size, i.bytes)) = some (some z, size, bytes)) (hzs : z.cells.size = size) (hsz : 0 < size)
    (v : Value) (n : Nat) (f : Nat → Value) (hs : a.eval s = v) (hown : Own w B v e size n f)
    (A : Option Addr) (m c : Nat) (g : Nat → Value) (hx : a.eval x = .slice A m c) (hA : SlAt w A (m * size) g) (hnil : A = none → m = 0 ∧ c = 0) (h1 : ∀ j, j < m * size → (g j).oneCell' = true)
    (h63 : n + m ≤ 9223372036854775807) (hbytes : (n + m) * bytes ≤ 140737488355328) (hB : B ≤ w.heap.size)
    (h : ∀ v' w', Own w' B v' e size (n + m) (joinF (n * size) f g) → Fr (fun k => v.ownBlock = some k) w w' → wpList P ops Q rest (a.put o.dst v') w') :
    wpList P ops Q (o :: rest) a w := by
  rcases Nat.eq_zero_or_pos m with hm | hm
  · subst hm
    cases A with
    | none =>
      obtain ⟨_, rfl⟩ := hnil rfl
      obtain ⟨i, hi0, hz0, hz1, hz2⟩ := info_parts hi
      refine wpList_append_own_none hgd s x t ho B e i size ht hi0 v n (cellsF (n * size) f) hs hown hx ?_
      exact h v w (hown.congr fun j hj => by unfold joinF; rw [if_pos hj]) (Fr.refl _ _)
    | some ad =>
      obtain ⟨i, hi0, hz0, hz1, hz2⟩ := info_parts hi
      refine wpList_append_own w hgd s x t ho B e i z size bytes ht hi0 hz0 hz1 hz2 hzs hsz v n (cellsF (n * size) f) hs hown ad 0 c [] hx (by simp) (fun j u hu => by simp at hu) (fun u hu => by simp at hu) (by simpa [maxLen] using h63) hbytes hB ?_
      intro v' w' h1 h2 h3
      rw [List.append_nil] at h1
      exact h v' w' (Own.congr (f := f) h1 fun j hj => by unfold joinF; rw [if_pos (show j < n * size from hj)]) (Fr.ofGrown h2)
  · obtain ⟨b, off, rfl, hb, hc⟩ := hA.at (Nat.mul_pos hm hsz)
    exact wpList_append hgd s x t ho B e size bytes z ht hi hzs hsz v n f hs hown b off m c g hx hc h1 h63 hbytes hB (fun v' w' h1 h2 _ => h v' w' h1 h2)

theorem new_one (w : World) (v : Value) (T : Nat) : ∀ j, j < 1 * 1 → (w.alloc (.cells #[v] T)).cell? ⟨w.heap.size, 0 + j, none⟩ = some v := by
  intro j hj
  obtain rfl : j = 0 := by omega
  simp

theorem new_two (w : World) (u v : Value) (T : Nat) : ∀ j, j < 2 * 1 → (w.alloc (.cells #[u, v] T)).cell? ⟨w.heap.size, 0 + j, none⟩ = some (if j = 0 then u else v) := by
  intro j hj
  have h : j = 0 ∨ j = 1 := by omega
  rcases h with rfl | rfl <;> simp

end Go.Proofs.YtldiecblcnoleaaDoor.Mem
